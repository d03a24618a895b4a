/- Exchange: contracts of IsName and Encode. -/
import Derived.Test.YthmndclmecnpmaaDoorTab
import Derived.Test.YthmndclmecnpmaaDoorExP
import Derived.WalkKit
import Derived.Lib.Hide
import Derived.Lib.ItoaLen
import Derived.Lib.ItoaNum
import Derived.Deep.QuietTactic
import Derived.BigQuiet
import Derived.Deep.RegionHeld3
import Derived.Deep.DrawnRows
import Derived.Deep.Cut
import Derived.Deep.CutRange
import Derived.Deep.DeepCutAuto
namespace Go.Proofs.YthmndclmecnpmaaDoor
open Go.RowKit
attribute [local go_sem ↓] Go.wp_at_zero Go.wp_at_succ

/-- The letters of a name. -/
def isLow (c : UInt8) : Bool := decide (97 ≤ c.toNat) && decide (c.toNat ≤ 122)
def okCh (c : UInt8) : Bool := isLow c || decide (c.toNat = 95) || (decide (48 ≤ c.toNat) && decide (c.toNat ≤ 57))
def chAt (k : Nat) (c : UInt8) : Bool := if k = 0 then isLow c else okCh c
/-- The first bytes are as in a name. -/
def NameTo (s : ByteArray) (j : Nat) : Prop := ∀ i (h : i < s.size), i < j → chAt i s[i] = true
instance (s : ByteArray) (j : Nat) : Decidable (NameTo s j) := Nat.decidableBallLT s.size fun i h => i < j → chAt i s[i] = true
def nameB (s : ByteArray) : Bool := decide (1 ≤ s.size) && decide (s.size ≤ 32) && decide (NameTo s s.size)
theorem nameB_yes {s : ByteArray} (h1 : 1 ≤ s.size) (h2 : s.size ≤ 32) (h : NameTo s s.size) : nameB s = true := by
  unfold nameB
  simp [h1, h2, h]
theorem nameB_no {s : ByteArray} (j : Nat) (hj : j < s.size) (h : chAt j s[j] = false) : nameB s = false := by
  unfold nameB
  have : ¬ NameTo s s.size := fun x => by have := x j hj hj; rw [h] at this; cases this
  simp [this]
theorem nameB_len {s : ByteArray} (h : ¬ (1 ≤ s.size ∧ s.size ≤ 32)) : nameB s = false := by
  unfold nameB
  by_cases h1 : 1 ≤ s.size
  · have : ¬ s.size ≤ 32 := fun x => h ⟨h1, x⟩
    simp [this]
  · simp [h1]
theorem NameTo.next {s : ByteArray} {j : Nat} (h : NameTo s j) (hj : j < s.size) (hc : chAt j s[j] = true) : NameTo s (j + 1) := by
  intro i hi hij
  by_cases e : i = j
  · subst e; exact hc
  · exact h i hi (by omega)

set_option maxRecDepth 100000 in
set_option maxHeartbeats 2000000 in
theorem isName_any (s : ByteArray) (w : World) : Calls Tryd.prog 47 #[.string s] w fun e w' => e = .returned (.bool (nameB s)) ∧ w = w' := by
  by_cases h0 : s.size < 1
  · have HF : Hid (false = nameB s) := Lib.hid (nameB_len (by omega)).symm
    have h0I : (s.size : Int) < 1 := by omega
    clear h0
    go_enter Tryd.func47, Tryd.ntmps47
    go_wp2_with fail
    go_ret
    exact ⟨ret_bool HF.out, rfl⟩
  have h0I : ¬ (s.size : Int) < 1 := by omega
  by_cases h1 : 32 < s.size
  · have HF : Hid (false = nameB s) := Lib.hid (nameB_len (by omega)).symm
    have h1I : (32 : Int) < (s.size : Int) := by omega
    clear h0 h1
    go_enter Tryd.func47, Tryd.ntmps47
    go_wp2_with fail
    go_ret
    exact ⟨ret_bool HF.out, rfl⟩
  have h1I : ¬ (32 : Int) < (s.size : Int) := by omega
  have hsz : (s.size : Int) ≤ 32 := by omega
  have HS : Hid (1 ≤ s.size ∧ s.size ≤ 32) := Lib.hid (by omega)
  clear h0 h1
  go_enter Tryd.func47, Tryd.ntmps47
  go_wp2_with fail
  go_loop [16] (fun i => ∃ j : Nat, i = .int .i64 (j : Int) ∧ j ≤ s.size ∧ Hid (NameTo s j)) (fun i => s.size - (intOf i).toNat)
  case atStart => exact ⟨0, rfl, Nat.zero_le _, Lib.hid (fun i _ h => absurd h (by omega))⟩
  case round =>
    obtain ⟨j, rfl, hj, HD⟩ := hrel
    by_cases hjs : j < s.size
    · have hjI : (j : Int) < (s.size : Int) := by omega
      have hj0 : (0 : Int) ≤ (j : Int) := by omega
      obtain ⟨c, HC⟩ : ∃ c : Nat, Hid (s[j].toNat = c) := ⟨_, Lib.hid rfl⟩
      have hcc : (s[j].toNat : Int) = (c : Int) := by rw [HC.out]
      have hc256 : (c : Int) < 256 := by rw [← hcc]; have := (s[j]).toNat_lt; omega
      have hc0 : (0 : Int) ≤ (c : Int) := by omega
      have HOK : Hid (chAt j s[j] = true → Hid (NameTo s (j + 1))) := Lib.hid fun h => Lib.hid (HD.out.next hjs h)
      have HNO : Hid (chAt j s[j] = false → false = nameB s) := Lib.hid fun h => (nameB_no j hjs h).symm
      have HCH : Hid (∀ b, (if j = 0 then (decide (97 ≤ c) && decide (c ≤ 122)) else ((decide (97 ≤ c) && decide (c ≤ 122)) || decide (c = 95) || (decide (48 ≤ c) && decide (c ≤ 57)))) = b → chAt j s[j] = b) := Lib.hid fun b h => by
        rw [← h]
        unfold chAt okCh isLow
        rw [HC.out]
      by_cases hl : 97 ≤ c ∧ c ≤ 122
      · have l1 : (97 : Int) ≤ (c : Int) := by omega
        have l2 : (c : Int) ≤ 122 := by omega
        have HX := Lib.hid (HOK.out (HCH.out true (by split <;> simp [hl.1, hl.2])))
        clear hl
        go_wp2_with fail
        go_round
        case rel => exact ⟨j + 1, by go_num, by omega, HX.out⟩
        case measure => simp [intOf]; omega
      · have hlb : (decide ((97 : Int) ≤ (c : Int)) && decide ((c : Int) ≤ 122)) = false := by
          rw [Bool.and_eq_false_iff]
          by_cases h : 97 ≤ c
          · right; simp; omega
          · left; simp; omega
        have hlN : (decide (97 ≤ c) && decide (c ≤ 122)) = false := by
          rw [Bool.and_eq_false_iff]
          by_cases h : 97 ≤ c
          · right; simp; omega
          · left; simp; omega
        by_cases hj00 : j = 0
        · have HX := Lib.hid (HNO.out (HCH.out false (by rw [if_pos hj00]; exact hlN)))
          subst hj00
          by_cases hlx : 97 ≤ c
          · have l1 : (97 : Int) ≤ (c : Int) := by omega
            have l2 : ¬ (c : Int) ≤ 122 := by omega
            clear hl hlb hlN hlx
            go_wp2_with fail
            go_ret
            exact ⟨ret_bool HX.out, rfl⟩
          · have l1 : ¬ (97 : Int) ≤ (c : Int) := by omega
            clear hl hlb hlN hlx
            go_wp2_with fail
            go_ret
            exact ⟨ret_bool HX.out, rfl⟩
        · have hjb : ((j : Int) == 0) = false := by simp; omega
          have hjb2 : (j == 0) = false := by simp; omega
          by_cases hlx : 97 ≤ c
          · have l1 : (97 : Int) ≤ (c : Int) := by omega
            have l2 : ¬ (c : Int) ≤ 122 := by omega
            have l3 : ((c : Int) != 95) = true := by simp; omega
            have l4 : ¬ (c : Int) < 48 := by omega
            have l5 : (57 : Int) < (c : Int) := by omega
            have HX := Lib.hid (HNO.out (HCH.out false (by
              rw [if_neg hj00, hlN, show decide (c = 95) = false from decide_eq_false (by omega), show decide (c ≤ 57) = false from decide_eq_false (by omega)]
              simp)))
            clear hl hlb hlN hlx
            go_wp2_with fail
            go_ret
            exact ⟨ret_bool HX.out, rfl⟩
          · have l1 : ¬ (97 : Int) ≤ (c : Int) := by omega
            by_cases h95 : c = 95
            · have HX := Lib.hid (HOK.out (HCH.out true (by rw [if_neg hj00, hlN, h95]; rfl)))
              have l3 : ((c : Int) != 95) = false := by simp; omega
              clear hl hlb hlN hlx
              go_wp2_with fail
              go_round
              case rel => exact ⟨j + 1, by go_num, by omega, HX.out⟩
              case measure => simp [intOf]; omega
            · have l3 : ((c : Int) != 95) = true := by simp; omega
              by_cases h48 : c < 48
              · have l4 : (c : Int) < 48 := by omega
                have HX := Lib.hid (HNO.out (HCH.out false (by
                  rw [if_neg hj00, hlN, show decide (c = 95) = false from decide_eq_false (by omega), show decide (48 ≤ c) = false from decide_eq_false (by omega)]
                  simp)))
                clear hl hlb hlN hlx h95 h48
                go_wp2_with fail
                go_ret
                exact ⟨ret_bool HX.out, rfl⟩
              · have l4 : ¬ (c : Int) < 48 := by omega
                by_cases h57 : 57 < c
                · have l5 : (57 : Int) < (c : Int) := by omega
                  have HX := Lib.hid (HNO.out (HCH.out false (by
                    rw [if_neg hj00, hlN, show decide (c = 95) = false from decide_eq_false (by omega), show decide (c ≤ 57) = false from decide_eq_false (by omega)]
                    simp)))
                  clear hl hlb hlN hlx h95 h48 h57
                  go_wp2_with fail
                  go_ret
                  exact ⟨ret_bool HX.out, rfl⟩
                · have l5 : ¬ (57 : Int) < (c : Int) := by omega
                  have HX := Lib.hid (HOK.out (HCH.out true (by
                    rw [if_neg hj00, show decide (48 ≤ c) = true from decide_eq_true (by omega), show decide (c ≤ 57) = true from decide_eq_true (by omega)]
                    simp)))
                  clear hl hlb hlN hlx h95 h48 h57
                  go_wp2_with fail
                  go_round
                  case rel => exact ⟨j + 1, by go_num, by omega, HX.out⟩
                  case measure => simp [intOf]; omega
    · obtain rfl : j = s.size := by omega
      have HF : Hid (true = nameB s) := Lib.hid (nameB_yes HS.out.1 HS.out.2 HD.out).symm
      go_wp2_with fail
      go_ret
      exact ⟨ret_bool HF.out, rfl⟩
/-! Encode. -/
/-- A packet. -/
structure Pkt where
  kind : Int
  name : ByteArray
  num : Int
  text : ByteArray
def Pkt.val (p : Pkt) : Value := .agg #[.int .i64 p.kind, .string p.name, .int .i64 p.num, .string p.text]
/-- The first error of a packet. -/
def pErr (p : Pkt) : Int :=
  if ¬ (p.kind = 1 ∨ p.kind = 2) then 11 else if nameB p.name = false then 12 else if (p.num < if p.kind = 2 then 0 else 1) ∨ 1099511627776 < p.num then 2
  else if 65536 < p.text.size then 5 else if p.kind = 2 ∧ ¬ p.text.data.toList = [] then 3 else 0
/-- The bytes of a packet. -/
def pL (p : Pkt) : List UInt8 :=
  if p.kind = 2 then [97, 99, 107, 32] ++ (p.name.data.toList ++ [32] ++ Lib.itoa p.num)
  else [100, 97, 116, 97, 32] ++ (p.name.data.toList ++ [32] ++ Lib.itoa p.num) ++ [10] ++ p.text.data.toList
def pkC (p : Pkt) : Array Value := #[.int .i64 p.kind, .string p.name, .int .i64 p.num, .string p.text]
def pEnc (p : Pkt) : ByteArray := if pErr p = 0 then ⟨(pL p).toArray⟩ else ⟨#[]⟩
theorem pk_cells (w : World) (p : Pkt) : ∀ w', Only Nobody (w.alloc (.cells (pkC p) 49)) w' → w'.cell? ⟨w.heap.size, 0, none⟩ = some (.int .i64 p.kind) ∧ w'.cell? ⟨w.heap.size, 1, none⟩ = some (.string p.name) ∧ w'.cell? ⟨w.heap.size, 2, none⟩ = some (.int .i64 p.num) ∧ w'.cell? ⟨w.heap.size, 3, none⟩ = some (.string p.text) := fun _ ho =>
  ⟨(ho.blk (Blk.new w _ _) (fun x => x)).cell 0, (ho.blk (Blk.new w _ _) (fun x => x)).cell 1, (ho.blk (Blk.new w _ _) (fun x => x)).cell 2, (ho.blk (Blk.new w _ _) (fun x => x)).cell 3⟩
theorem nameB_size {s : ByteArray} (h : nameB s = true) : 1 ≤ s.size ∧ s.size ≤ 32 := by
  unfold nameB at h
  simp only [Bool.and_eq_true, decide_eq_true_eq] at h
  exact h.1

theorem itoa_len (n : Int) (h0 : 0 ≤ n) (h1 : n ≤ 1099511627776) : (Lib.itoa n).length ≤ 21 := Lib.itoa_length_le n (by omega) (by omega)
/-- The head of a packet: name, blank, number. -/
def headL (p : Pkt) : List UInt8 := p.name.data.toList ++ [32] ++ Lib.itoa p.num
theorem data_enc (p : Pkt) (hd : ByteArray) (h : hd.data.toList = headL p) (h1 : p.kind = 1) (h2 : pErr p = 0) : ((⟨#[100, 97, 116, 97, 32]⟩ : ByteArray) ++ hd ++ ⟨#[10]⟩) ++ p.text = pEnc p := by
  unfold pEnc
  rw [if_pos h2]
  apply str_ext
  unfold pL
  rw [if_neg (by omega)]
  have : hd.data.toList = p.name.data.toList ++ [32] ++ Lib.itoa p.num := h
  simp [this]
theorem ack_enc (p : Pkt) (hd : ByteArray) (h : hd.data.toList = headL p) (h1 : p.kind = 2) (h2 : pErr p = 0) : (⟨#[97, 99, 107, 32]⟩ : ByteArray) ++ hd = pEnc p := by
  unfold pEnc
  rw [if_pos h2]
  apply str_ext
  unfold pL
  rw [if_pos h1]
  have : hd.data.toList = p.name.data.toList ++ [32] ++ Lib.itoa p.num := h
  simp [this]
def HeadMid (p : Pkt) (w : World) (v : Value) (wx : World) : Prop := ∃ hd : ByteArray, v = .string hd ∧ hd.data.toList = headL p ∧ hd.size ≤ 100 ∧ Only Nobody w wx
set_option maxRecDepth 100000 in
set_option maxHeartbeats 4000000 in
theorem encode_any (p : Pkt) (w : World) (ht : CalTab w) (hn : -9223372036854775808 ≤ p.num ∧ p.num ≤ 9223372036854775807) : Calls Tryd.prog 22 #[.agg #[.int .i64 p.kind, .string p.name, .int .i64 p.num, .string p.text]] w fun e w' => e = .returned (.tuple #[.string (pEnc p), .int .i64 (pErr p)]) ∧ Only Nobody w w' := by
  have HT := Lib.hid ht
  have HC := Lib.hid (pk_cells w p)
  obtain ⟨c0, c1, c2, c3⟩ := HC.out _ (Only.refl _ _)
  have HE : Hid (∀ r : Int, pErr p = r → r ≠ 0 → Ending.returned (.tuple #[.string ⟨#[]⟩, .int .i64 r]) = Ending.returned (.tuple #[.string (pEnc p), .int .i64 (pErr p)])) := Lib.hid fun r h0 h1 => by
    unfold pEnc
    rw [if_neg (by rw [h0]; exact h1), h0]
  clear ht
  by_cases hk : p.kind = 1 ∨ p.kind = 2
  · by_cases hnm : nameB p.name = true
    · have HNM := Lib.hid hnm
      have hns := nameB_size hnm
      rcases hk with hk | hk
      · have hk1 : (p.kind == 2) = false := by simp; omega
        have hk2 : (p.kind != 1) = false := by simp; omega
        have HP0 : Hid (pErr p = if (p.num < 1) ∨ 1099511627776 < p.num then 2 else if 65536 < p.text.size then 5 else 0) := Lib.hid (by
          unfold pErr
          rw [if_neg (by omega), if_neg (by rw [HNM.out]; simp)]
          have e : ¬ p.kind = 2 := by omega
          simp [e])
        have hd1 : (1 : Int) ≤ 1 := by omega
        by_cases n1 : p.num < 1
        · have HF := Lib.hid (HE.out 2 (by rw [HP0.out, if_pos (.inl n1)]) (by omega))
          clear hk hnm
          go_enter Tryd.func22, Tryd.ntmps22
          go_wp2_with fail
          refine (isName_any _ _).mono ?_
          rw [HNM.out]
          rintro e w' ⟨rfl, rfl⟩
          go_wp2_with fail
          go_ret2
          exact ⟨HF.out, (by repeat (first | exact Only.refl _ _ | refine Only.drew ?_ | refine Only.alloc ?_ _))⟩
        by_cases n2 : 1099511627776 < p.num
        · have HF := Lib.hid (HE.out 2 (by rw [HP0.out, if_pos (.inr n2)]) (by omega))
          clear hk hnm
          go_enter Tryd.func22, Tryd.ntmps22
          go_wp2_with fail
          refine (isName_any _ _).mono ?_
          rw [HNM.out]
          rintro e w' ⟨rfl, rfl⟩
          go_wp2_with fail
          go_ret2
          exact ⟨HF.out, (by repeat (first | exact Only.refl _ _ | refine Only.drew ?_ | refine Only.alloc ?_ _))⟩
        by_cases n3 : 65536 < p.text.size
        · have HF := Lib.hid (HE.out 5 (by rw [HP0.out, if_neg (by omega), if_pos n3]) (by omega))
          have n3I : (65536 : Int) < (p.text.size : Int) := by omega
          clear hk hnm n3
          go_enter Tryd.func22, Tryd.ntmps22
          go_wp2_with fail
          refine (isName_any _ _).mono ?_
          rw [HNM.out]
          rintro e w' ⟨rfl, rfl⟩
          go_wp2_with fail
          go_ret2
          exact ⟨HF.out, (by repeat (first | exact Only.refl _ _ | refine Only.drew ?_ | refine Only.alloc ?_ _))⟩
        have n3I : ¬ (65536 : Int) < (p.text.size : Int) := by omega
        have HPZ : Hid (pErr p = 0) := Lib.hid (by rw [HP0.out, if_neg (by omega), if_neg n3])
        obtain ⟨s1, HS1, hs1⟩ : ∃ s1 : ByteArray, Hid (s1.data.toList = Lib.itoa p.num) ∧ s1.size ≤ 21 := ⟨⟨(Lib.itoa p.num).toArray⟩, Lib.hid rfl, by
          have := itoa_len p.num (by omega) (by omega)
          show (Lib.itoa p.num).toArray.size ≤ 21
          rw [List.size_toArray]
          exact this⟩
        have HIT : Hid (∀ w, CalTab w → Calls Tryd.prog 48 #[.int .i64 p.num] w fun e w' => e = .returned (.string s1) ∧ Only Nobody w w') := Lib.hid fun w h => itoa_any p.num (by omega) (by omega) s1 HS1.out w h
        have z1 : ¬ 9223372036854775807 < p.name.size + 1 := by omega
        have z2 : ¬ 9223372036854775807 < p.name.size + 1 + s1.size := by omega
        have HK := Lib.hid hk
        have HHD : Hid ((p.name ++ ⟨#[32]⟩ ++ s1).data.toList = headL p) := Lib.hid (by simp [headL, HS1.out])
        have HHZ : Hid ((p.name ++ ⟨#[32]⟩ ++ s1).size ≤ 100) := Lib.hid (by rw [ByteArray.size_append, ByteArray.size_append]; show p.name.size + 1 + s1.size ≤ 100; omega)
        have HOA : Hid (Only Nobody w (w.alloc (.cells (pkC p) 49))) := Lib.hid (by repeat (first | exact Only.refl _ _ | refine Only.drew ?_ | refine Only.alloc ?_ _))
        have HTA := Lib.hid (HT.out.same HOA.out.drew)
        have HOD : Hid (Only Nobody (w.alloc (.cells (pkC p) 49)) (w.alloc (.cells (pkC p) 49)).drew) := Lib.hid (Only.refl _ _).drew
        clear hk hnm n3
        go_enter Tryd.func22, Tryd.ntmps22
        go_wp2_with fail
        refine (isName_any _ _).mono ?_
        rw [HNM.out]
        rintro e w' ⟨rfl, rfl⟩
        go_upto_region 14 with fail
        go_cut [5] (fun v wx => HeadMid p (w.alloc (.cells (pkC p) 49)) v wx)
        case first =>
          go_region_held3 (fun w' => w'.cell? ⟨w.heap.size, 1, none⟩ = some (.string p.name) ∧ w'.cell? ⟨w.heap.size, 2, none⟩ = some (.int .i64 p.num)) (first | exact ⟨c1, c2⟩ | exact hcc) (first
            | (go_at_call 48; refine (HIT.out _ HTA.out).mono ?_; rintro e w' ⟨rfl, ho'⟩; have HOX := Lib.hid (HOD.out.trans ho'); have hcc : w'.cell? ⟨w.heap.size, 1, none⟩ = some (.string p.name) ∧ w'.cell? ⟨w.heap.size, 2, none⟩ = some (.int .i64 p.num) := ⟨(HC.out _ HOX.out).2.1, (HC.out _ HOX.out).2.2.1⟩; clear ho'))
          all_goals
            go_wp2_with fail
            go_meet
            exact ⟨_, rfl, HHD.out, HHZ.out, HOX.out⟩
        case rest =>
          obtain ⟨hd, rfl, h1, h2, ho⟩ := hcut
          have HH1 := Lib.hid h1
          have HO := Lib.hid ho
          obtain ⟨d0, d1, d2, d3⟩ := HC.out _ ho
          have z3 : ¬ 9223372036854775807 < 5 + hd.size := by omega
          have z4 : ¬ 9223372036854775807 < 5 + hd.size + 1 := by omega
          have z5 : ¬ 9223372036854775807 < 5 + hd.size + 1 + p.text.size := by omega
          clear h1 ho c0 c1 c2 c3
          go_wp2_with fail
          go_ret2
          exact ⟨by rw [HPZ.out]; exact ret2_str (data_enc p hd HH1.out HK.out HPZ.out), HOA.out.trans HO.out⟩
      · have HP0 : Hid (pErr p = if (p.num < 0) ∨ 1099511627776 < p.num then 2 else if 65536 < p.text.size then 5 else if ¬ p.text.data.toList = [] then 3 else 0) := Lib.hid (by
          unfold pErr
          rw [if_neg (by omega), if_neg (by rw [HNM.out]; simp)]
          simp [hk])
        have hk1 : (p.kind == 2) = true := by simp; omega
        have hk2 : (p.kind != 1) = true := by simp; omega
        have hk3 : (p.kind != 2) = false := by simp; omega
        by_cases n1 : p.num < 0
        · have HF := Lib.hid (HE.out 2 (by rw [HP0.out, if_pos (.inl n1)]) (by omega))
          clear hk hnm
          go_enter Tryd.func22, Tryd.ntmps22
          go_wp2_with fail
          refine (isName_any _ _).mono ?_
          rw [HNM.out]
          rintro e w' ⟨rfl, rfl⟩
          go_wp2_with fail
          go_ret2
          exact ⟨HF.out, (by repeat (first | exact Only.refl _ _ | refine Only.drew ?_ | refine Only.alloc ?_ _))⟩
        by_cases n2 : 1099511627776 < p.num
        · have HF := Lib.hid (HE.out 2 (by rw [HP0.out, if_pos (.inr n2)]) (by omega))
          clear hk hnm
          go_enter Tryd.func22, Tryd.ntmps22
          go_wp2_with fail
          refine (isName_any _ _).mono ?_
          rw [HNM.out]
          rintro e w' ⟨rfl, rfl⟩
          go_wp2_with fail
          go_ret2
          exact ⟨HF.out, (by repeat (first | exact Only.refl _ _ | refine Only.drew ?_ | refine Only.alloc ?_ _))⟩
        by_cases n3 : 65536 < p.text.size
        · have HF := Lib.hid (HE.out 5 (by rw [HP0.out, if_neg (by omega), if_pos n3]) (by omega))
          have n3I : (65536 : Int) < (p.text.size : Int) := by omega
          clear hk hnm n3
          go_enter Tryd.func22, Tryd.ntmps22
          go_wp2_with fail
          refine (isName_any _ _).mono ?_
          rw [HNM.out]
          rintro e w' ⟨rfl, rfl⟩
          go_wp2_with fail
          go_ret2
          exact ⟨HF.out, (by repeat (first | exact Only.refl _ _ | refine Only.drew ?_ | refine Only.alloc ?_ _))⟩
        have n3I : ¬ (65536 : Int) < (p.text.size : Int) := by omega
        by_cases n4 : ¬ p.text.data.toList = []
        · have HF := Lib.hid (HE.out 3 (by rw [HP0.out, if_neg (by omega), if_neg n3, if_pos n4]) (by omega))
          have t2 : ¬ p.text.toList = [] := by rw [toList_data]; exact n4
          have t1 : p.text.toList.isEmpty = false := by cases e : p.text.toList with
            | nil => exact absurd e t2
            | cons a l => rfl
          have t3 : (p.text.toList == []) = false := by simpa using t2
          have t4 : (p.text.toList != []) = true := by simpa using t2
          clear hk hnm n3 n4
          go_enter Tryd.func22, Tryd.ntmps22
          go_wp2_with fail
          refine (isName_any _ _).mono ?_
          rw [HNM.out]
          rintro e w' ⟨rfl, rfl⟩
          go_wp2_with fail
          go_ret2
          exact ⟨HF.out, (by repeat (first | exact Only.refl _ _ | refine Only.drew ?_ | refine Only.alloc ?_ _))⟩
        have n4 := Classical.not_not.1 n4
        have t2 : p.text.toList = [] := by rw [toList_data]; exact n4
        have t1 : p.text.toList.isEmpty = true := by rw [t2]; rfl
        have t3 : (p.text.toList == []) = true := by rw [t2]; rfl
        have t4 : (p.text.toList != []) = false := by rw [t2]; rfl
        have HPZ : Hid (pErr p = 0) := Lib.hid (by rw [HP0.out, if_neg (by omega), if_neg n3, if_neg (fun x => x n4)])
        obtain ⟨s1, HS1, hs1⟩ : ∃ s1 : ByteArray, Hid (s1.data.toList = Lib.itoa p.num) ∧ s1.size ≤ 21 := ⟨⟨(Lib.itoa p.num).toArray⟩, Lib.hid rfl, by
          have := itoa_len p.num (by omega) (by omega)
          show (Lib.itoa p.num).toArray.size ≤ 21
          rw [List.size_toArray]
          exact this⟩
        have HIT : Hid (∀ w, CalTab w → Calls Tryd.prog 48 #[.int .i64 p.num] w fun e w' => e = .returned (.string s1) ∧ Only Nobody w w') := Lib.hid fun w h => itoa_any p.num (by omega) (by omega) s1 HS1.out w h
        have z1 : ¬ 9223372036854775807 < p.name.size + 1 := by omega
        have z2 : ¬ 9223372036854775807 < p.name.size + 1 + s1.size := by omega
        have HK := Lib.hid hk
        have HHD : Hid ((p.name ++ ⟨#[32]⟩ ++ s1).data.toList = headL p) := Lib.hid (by simp [headL, HS1.out])
        have HHZ : Hid ((p.name ++ ⟨#[32]⟩ ++ s1).size ≤ 100) := Lib.hid (by rw [ByteArray.size_append, ByteArray.size_append]; show p.name.size + 1 + s1.size ≤ 100; omega)
        have HOA : Hid (Only Nobody w (w.alloc (.cells (pkC p) 49))) := Lib.hid (by repeat (first | exact Only.refl _ _ | refine Only.drew ?_ | refine Only.alloc ?_ _))
        have HTA := Lib.hid (HT.out.same HOA.out.drew)
        have HOD : Hid (Only Nobody (w.alloc (.cells (pkC p) 49)) (w.alloc (.cells (pkC p) 49)).drew) := Lib.hid (Only.refl _ _).drew
        clear hk hnm n3 n4
        go_enter Tryd.func22, Tryd.ntmps22
        go_wp2_with fail
        refine (isName_any _ _).mono ?_
        rw [HNM.out]
        rintro e w' ⟨rfl, rfl⟩
        go_upto_region 14 with fail
        go_cut [5] (fun v wx => HeadMid p (w.alloc (.cells (pkC p) 49)) v wx)
        case first =>
          go_region_held3 (fun w' => w'.cell? ⟨w.heap.size, 1, none⟩ = some (.string p.name) ∧ w'.cell? ⟨w.heap.size, 2, none⟩ = some (.int .i64 p.num)) (first | exact ⟨c1, c2⟩ | exact hcc) (first
            | (go_at_call 48; refine (HIT.out _ HTA.out).mono ?_; rintro e w' ⟨rfl, ho'⟩; have HOX := Lib.hid (HOD.out.trans ho'); have hcc : w'.cell? ⟨w.heap.size, 1, none⟩ = some (.string p.name) ∧ w'.cell? ⟨w.heap.size, 2, none⟩ = some (.int .i64 p.num) := ⟨(HC.out _ HOX.out).2.1, (HC.out _ HOX.out).2.2.1⟩; clear ho'))
          all_goals
            go_wp2_with fail
            go_meet
            exact ⟨_, rfl, HHD.out, HHZ.out, HOX.out⟩
        case rest =>
          obtain ⟨hd, rfl, h1, h2, ho⟩ := hcut
          have HH1 := Lib.hid h1
          have HO := Lib.hid ho
          obtain ⟨d0, d1, d2, d3⟩ := HC.out _ ho
          have z3 : ¬ 9223372036854775807 < 4 + hd.size := by omega
          clear h1 ho c0 c1 c2 c3
          go_wp2_with fail
          go_ret2
          exact ⟨by rw [HPZ.out]; exact ret2_str (ack_enc p hd HH1.out HK.out HPZ.out), HOA.out.trans HO.out⟩
    · have hnm' : nameB p.name = false := by simpa using hnm
      have HF := Lib.hid (HE.out 12 (by unfold pErr; rw [if_neg (fun x => x hk), if_pos hnm']) (by omega))
      have HNM := Lib.hid hnm'
      clear hnm hnm'
      rcases hk with hk | hk
      · have hk1 : (p.kind == 2) = false := by simp; omega
        have hk2 : (p.kind != 1) = false := by simp; omega
        clear hk
        go_enter Tryd.func22, Tryd.ntmps22
        go_wp2_with fail
        refine (isName_any _ _).mono ?_
        rw [HNM.out]
        rintro e w' ⟨rfl, rfl⟩
        go_wp2_with fail
        go_ret2
        exact ⟨HF.out, (by repeat (first | exact Only.refl _ _ | refine Only.drew ?_ | refine Only.alloc ?_ _))⟩
      · have hk1 : (p.kind == 2) = true := by simp; omega
        have hk2 : (p.kind != 1) = true := by simp; omega
        have hk3 : (p.kind != 2) = false := by simp; omega
        clear hk
        go_enter Tryd.func22, Tryd.ntmps22
        go_wp2_with fail
        refine (isName_any _ _).mono ?_
        rw [HNM.out]
        rintro e w' ⟨rfl, rfl⟩
        go_wp2_with fail
        go_ret2
        exact ⟨HF.out, (by repeat (first | exact Only.refl _ _ | refine Only.drew ?_ | refine Only.alloc ?_ _))⟩
  · have HF := Lib.hid (HE.out 11 (by unfold pErr; rw [if_pos hk]) (by omega))
    have hk1 : (p.kind == 2) = false := by simp; omega
    have hk2 : (p.kind != 1) = true := by simp; omega
    have hk3 : (p.kind != 2) = true := by simp; omega
    clear hk
    go_enter Tryd.func22, Tryd.ntmps22
    go_wp2_with fail
    go_ret2
    exact ⟨HF.out, (by repeat (first | exact Only.refl _ _ | refine Only.drew ?_ | refine Only.alloc ?_ _))⟩

end Go.Proofs.YthmndclmecnpmaaDoor
