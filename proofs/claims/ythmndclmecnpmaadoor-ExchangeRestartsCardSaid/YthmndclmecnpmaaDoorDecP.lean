/- Exchange, plain: what Decode makes of some bytes; it leads back from Encode. -/
import Derived.Test.YthmndclmecnpmaaDoorExE
import Derived.Lib.IndexMore
import Derived.Lib.AtoiAll
import Derived.Lib.IndexBytes
import Derived.Lib.ItoaMem
namespace Go.Proofs.YthmndclmecnpmaaDoor

theorem indexByte_app (c : UInt8) (b : List UInt8) : ∀ a : List UInt8, c ∉ a → Lib.indexByte (a ++ c :: b) c = (a.length : Int)
  | [], _ => by simp [Lib.indexByte]
  | x :: a, h => by
    have hx : (x == c) = false := by simpa using fun e : x = c => h (by simp [e])
    have ih := indexByte_app c b a (fun e => h (by simp [e]))
    simp only [List.cons_append, Lib.indexByte, hx, ih]
    have : ((a.length : Int) == -1) = false := by simp
    simp [this]
theorem indexByte_none (c : UInt8) : ∀ a : List UInt8, c ∉ a → Lib.indexByte a c = -1
  | [], _ => rfl
  | x :: a, h => by
    have hx : (x == c) = false := by simpa using fun e : x = c => h (by simp [e])
    have ih := indexByte_none c a (fun e => h (by simp [e]))
    simp only [Lib.indexByte, hx, ih]
    rfl
theorem cut_app {c : UInt8} {a b : List UInt8} (h : c ∉ a) : Lib.cut (a ++ c :: b) [c] = (a, b, true) := by
  unfold Lib.cut
  rw [Lib.index_one, indexByte_app c b a h, if_pos (by omega)]
  have e : ((a.length : Int)).toNat = a.length := by omega
  rw [e]
  simp
theorem cut_no {c : UInt8} {a : List UInt8} (h : c ∉ a) : Lib.cut a [c] = (a, [], false) := by
  unfold Lib.cut
  rw [Lib.index_one, indexByte_none c a h, if_neg (by omega)]
theorem cut_le (l sep : List UInt8) : (Lib.cut l sep).1.length ≤ l.length ∧ (Lib.cut l sep).2.1.length ≤ l.length := by
  unfold Lib.cut
  split
  · simp only [List.length_take, List.length_drop]
    omega
  · simp

theorem parse_app : ∀ (l r : List UInt8) (acc u : Nat), Lib.parseUint10 acc l = .ok u → Lib.parseUint10 acc (l ++ r) = Lib.parseUint10 u r
  | [], r, acc, u, h => by
    simp only [Lib.parseUint10] at h
    injection h with h
    subst h
    rfl
  | c :: l, r, acc, u, h => by
    simp only [Lib.parseUint10] at h
    simp only [List.cons_append, Lib.parseUint10]
    split at h
    · rename_i h1
      rw [if_pos h1]
      split at h
      · cases h
      · rename_i h2
        rw [if_neg h2]
        split at h
        · cases h
        · rename_i h3
          rw [if_neg h3]
          exact parse_app l r _ u h
    · cases h
theorem dig_nat {u : Nat} (h : u < 10) : (UInt8.ofNat (48 + u)).toNat = 48 + u := UInt8.toNat_ofNat_of_lt' (by simp [UInt8.size]; omega)
theorem parse_dec (n : Nat) : n < 18446744073709551616 → Lib.parseUint10 0 (Lib.decDigits n) = .ok n := by
  induction n using Nat.strongRecOn with
  | _ n ih =>
    intro hn
    by_cases h : n < 10
    · rw [Lib.decDigits_one h]
      simp only [Lib.parseUint10, dig_nat h]
      rw [if_pos (by omega), if_neg (by omega), if_neg (by omega)]
      congr 1
      omega
    · rw [Lib.decDigits, dif_neg h, parse_app _ _ 0 (n / 10) (ih (n / 10) (by omega) (by omega))]
      have hm : n % 10 < 10 := Nat.mod_lt _ (by omega)
      simp only [Lib.parseUint10, dig_nat hm]
      rw [if_pos (by omega), if_neg (by omega), if_neg (by omega)]
      congr 1
      omega
theorem dec_digit (n : Nat) : ∀ c ∈ Lib.decDigits n, 48 ≤ c.toNat ∧ c.toNat ≤ 57 := by
  induction n using Nat.strongRecOn with
  | _ n ih =>
    intro c hc
    by_cases h : n < 10
    · rw [Lib.decDigits_one h, List.mem_singleton] at hc
      rw [hc, dig_nat h]; omega
    · rw [Lib.decDigits, dif_neg h, List.mem_append, List.mem_singleton] at hc
      rcases hc with hc | hc
      · exact ih (n / 10) (by omega) c hc
      · have hm : n % 10 < 10 := Nat.mod_lt _ (by omega)
        rw [hc, dig_nat hm]; omega
theorem dec_ne (n : Nat) : Lib.decDigits n ≠ [] := by
  by_cases h : n < 10
  · rw [Lib.decDigits_one h]; simp
  · rw [Lib.decDigits, dif_neg h]; simp
theorem atoi_dec (n : Nat) (h : n < 9223372036854775808) : Lib.atoiAll (Lib.decDigits n) = .ok (n : Int) := by
  have hp : Lib.parseMag (Lib.decDigits n) = .ok n := by
    unfold Lib.parseMag
    rw [if_neg (dec_ne n)]
    exact parse_dec n (by omega)
  have hd := dec_digit n
  cases hl : Lib.decDigits n with
  | nil => exact absurd hl (dec_ne n)
  | cons c r =>
    rw [hl] at hp hd
    have hc := hd c (by simp)
    unfold Lib.atoiAll
    simp only []
    rw [if_neg (by omega), hp]
    simp only []
    have h45 : ¬ c.toNat = 45 := by omega
    rw [if_neg (by omega), if_neg (by omega), if_neg h45]
theorem atoi_bd {l : List UInt8} {v : Int} (h : Lib.atoiAll l = .ok v) : -9223372036854775808 ≤ v ∧ v ≤ 9223372036854775807 := by
  unfold Lib.atoiAll at h
  split at h
  · cases h
  · simp only [] at h
    split at h
    · cases h
    · cases h
    · split at h
      · cases h
      · split at h
        · cases h
        · injection h with h
          split at h <;> omega

/-! What Decode makes of some bytes. -/
def cutB (s : ByteArray) (c : UInt8) : ByteArray × ByteArray := (⟨(Lib.cut s.data.toList [c]).1.toArray⟩, ⟨(Lib.cut s.data.toList [c]).2.1.toArray⟩)
theorem cutB_le (s : ByteArray) (c : UInt8) : (cutB s c).1.size ≤ s.size ∧ (cutB s c).2.size ≤ s.size := by
  have h := cut_le s.data.toList [c]
  have e : s.data.toList.length = s.size := by simp
  rw [e] at h
  exact ⟨by show (Lib.cut s.data.toList [c]).1.toArray.size ≤ _; rw [List.size_toArray]; exact h.1, by show (Lib.cut s.data.toList [c]).2.1.toArray.size ≤ _; rw [List.size_toArray]; exact h.2⟩
def decNum (s : ByteArray) : Int := match Lib.atoiAll s.data.toList with
  | .ok v => v
  | .range => Lib.atoiSat s.data.toList
  | _ => 0
def numOk (s : ByteArray) : Bool := match Lib.atoiAll s.data.toList with
  | .ok _ => true
  | _ => false
def headD (s : ByteArray) : ByteArray × ByteArray := cutB s 10
def wordD (s : ByteArray) : ByteArray × ByteArray := cutB (headD s).1 32
def restD (s : ByteArray) : ByteArray × ByteArray := cutB (wordD s).2 32
def decP (s : ByteArray) : Pkt := ⟨if (wordD s).1.data.toList = [97, 99, 107] then 2 else 1, (restD s).1, decNum (restD s).2, (headD s).2⟩
def decOk (s : ByteArray) : Prop := numOk (restD s).2 = true ∧ pErr (decP s) = 0 ∧ pEnc (decP s) = s
theorem decNum_bd (s : ByteArray) : -9223372036854775808 ≤ decNum s ∧ decNum s ≤ 9223372036854775807 := by
  unfold decNum
  cases h : Lib.atoiAll s.data.toList with
  | ok v => exact atoi_bd h
  | range => simp only []; unfold Lib.atoiSat; split <;> omega
  | _ => simp only []; omega

theorem name_no {s : ByteArray} (h : nameB s = true) (c : UInt8) (hc : c.toNat < 48) : c ∉ s.data.toList := by
  intro hm
  unfold nameB at h
  simp only [Bool.and_eq_true, decide_eq_true_eq] at h
  obtain ⟨i, hi, e⟩ := List.mem_iff_getElem.1 hm
  have hi' : i < s.size := by simpa using hi
  have h2 := h.2 i hi' hi'
  have e2 : s[i] = c := by
    rw [← e]
    rfl
  rw [e2] at h2
  unfold chAt okCh isLow at h2
  have h95 : ¬ c.toNat = 95 := by omega
  split at h2 <;> simp [h95] at h2 <;> omega
theorem str_eta {s : ByteArray} {l : List UInt8} (h : s.data.toList = l) : (⟨l.toArray⟩ : ByteArray) = s := str_ext (by simp [h])
theorem cutB_eq {s : ByteArray} {c : UInt8} {a b : List UInt8} {t : Bool} (h : Lib.cut s.data.toList [c] = (a, b, t)) : cutB s c = (⟨a.toArray⟩, ⟨b.toArray⟩) := by
  unfold cutB
  rw [h]
theorem pErr_zero {p : Pkt} (h : pErr p = 0) : (p.kind = 1 ∨ p.kind = 2) ∧ nameB p.name = true ∧ (p.kind = 1 → 1 ≤ p.num) ∧ 0 ≤ p.num ∧ p.num ≤ 1099511627776 ∧ p.text.size ≤ 65536 ∧ (p.kind = 2 → p.text.data.toList = []) := by
  unfold pErr at h
  by_cases hk : p.kind = 1 ∨ p.kind = 2
  · rw [if_neg (fun x => x hk)] at h
    by_cases hn : nameB p.name = false
    · rw [if_pos hn] at h; cases h
    · rw [if_neg hn] at h
      by_cases hr : (p.num < if p.kind = 2 then 0 else 1) ∨ 1099511627776 < p.num
      · rw [if_pos hr] at h; cases h
      · rw [if_neg hr] at h
        by_cases hl : 65536 < p.text.size
        · rw [if_pos hl] at h; cases h
        · rw [if_neg hl] at h
          by_cases ht : p.kind = 2 ∧ ¬ p.text.data.toList = []
          · rw [if_pos ht] at h; cases h
          · rw [not_or] at hr
            obtain ⟨h1, h2⟩ := hr
            refine ⟨hk, by simpa using hn, fun e => ?_, ?_, by omega, by omega, fun e => Classical.not_not.1 (fun x => ht ⟨e, x⟩)⟩
            · rw [if_neg (by omega)] at h1; omega
            · split at h1 <;> omega
  · rw [if_pos hk] at h; cases h
/-- Decode leads back. -/
theorem dec_enc (p : Pkt) (hp : pErr p = 0) : decP (pEnc p) = p ∧ numOk (restD (pEnc p)).2 = true := by
  obtain ⟨hk, hnm, _, hnum1, hnum2, _, ht2⟩ := pErr_zero hp
  obtain ⟨n, hnn⟩ : ∃ n : Nat, p.num = (n : Int) := ⟨p.num.toNat, by omega⟩
  have hit : Lib.itoa p.num = Lib.decDigits n := by rw [hnn]; exact Lib.itoa_nonneg n
  have n32 : (32 : UInt8) ∉ p.name.data.toList := name_no hnm 32 (by decide)
  have n10 : (10 : UInt8) ∉ p.name.data.toList := name_no hnm 10 (by decide)
  have d10 : (10 : UInt8) ∉ Lib.decDigits n := fun e => absurd (dec_digit n 10 e) (by decide)
  have henc : (pEnc p).data.toList = pL p := by unfold pEnc; rw [if_pos hp]
  have hat : Lib.atoiAll (Lib.decDigits n) = .ok p.num := by rw [hnn]; exact atoi_dec n (by omega)
  have hR : p.name.data.toList ++ [32] ++ Lib.decDigits n = p.name.data.toList ++ 32 :: Lib.decDigits n := by simp
  have step : ∀ (word : List UInt8) (kd : Int), (32 : UInt8) ∉ word → headD (pEnc p) = (⟨(word ++ 32 :: (p.name.data.toList ++ 32 :: Lib.decDigits n)).toArray⟩, p.text) → (if word = [97, 99, 107] then (2 : Int) else 1) = p.kind → decP (pEnc p) = p ∧ numOk (restD (pEnc p)).2 = true := by
    intro word kd hw e1 hkd
    have e2 : wordD (pEnc p) = (⟨word.toArray⟩, ⟨(p.name.data.toList ++ 32 :: Lib.decDigits n).toArray⟩) := by
      unfold wordD
      rw [e1]
      exact cutB_eq (t := true) (cut_app hw)
    have e3 : restD (pEnc p) = (p.name, ⟨(Lib.decDigits n).toArray⟩) := by
      unfold restD
      rw [e2]
      refine (cutB_eq (a := p.name.data.toList) (b := Lib.decDigits n) (t := true) (cut_app n32)).trans ?_
      exact Prod.ext (str_eta rfl) rfl
    refine ⟨?_, ?_⟩
    · unfold decP decNum
      rw [e1, e2, e3]
      simp only [hat, hkd]
    · unfold numOk
      rw [e3]
      simp only [hat]
  rcases hk with hk | hk
  · refine step [100, 97, 116, 97] 1 (by decide) ?_ (by rw [if_neg (by decide), hk])
    have hL : pL p = ([100, 97, 116, 97] ++ 32 :: (p.name.data.toList ++ 32 :: Lib.decDigits n)) ++ 10 :: p.text.data.toList := by
      unfold pL
      rw [if_neg (by omega), hit]
      simp
    refine (cutB_eq (a := [100, 97, 116, 97] ++ 32 :: (p.name.data.toList ++ 32 :: Lib.decDigits n)) (b := p.text.data.toList) (t := true) ?_).trans ?_
    · rw [henc, hL]
      refine cut_app ?_
      intro hm
      rcases List.mem_append.1 hm with h1 | h1
      · revert h1; decide
      · rcases List.mem_cons.1 h1 with h1 | h1
        · revert h1; decide
        · rcases List.mem_append.1 h1 with h1 | h1
          · exact n10 h1
          · rcases List.mem_cons.1 h1 with h1 | h1
            · revert h1; decide
            · exact d10 h1
    · exact Prod.ext rfl (str_eta rfl)
  · refine step [97, 99, 107] 2 (by decide) ?_ (by rw [if_pos rfl, hk])
    have hL : pL p = [97, 99, 107] ++ 32 :: (p.name.data.toList ++ 32 :: Lib.decDigits n) := by
      unfold pL
      rw [if_pos hk, hit]
      simp
    refine (cutB_eq (a := [97, 99, 107] ++ 32 :: (p.name.data.toList ++ 32 :: Lib.decDigits n)) (b := []) (t := false) ?_).trans ?_
    · rw [henc, hL]
      refine cut_no ?_
      intro hm
      rcases List.mem_append.1 hm with h1 | h1
      · revert h1; decide
      · rcases List.mem_cons.1 h1 with h1 | h1
        · revert h1; decide
        · rcases List.mem_append.1 h1 with h1 | h1
          · exact n10 h1
          · rcases List.mem_cons.1 h1 with h1 | h1
            · revert h1; decide
            · exact d10 h1
    · exact Prod.ext rfl (str_eta (ht2 hk))
theorem decOk_enc (p : Pkt) (h : pErr p = 0) : decOk (pEnc p) := by
  obtain ⟨h1, h2⟩ := dec_enc p h
  exact ⟨h2, by rw [h1]; exact h, by rw [h1]⟩

end Go.Proofs.YthmndclmecnpmaaDoor
