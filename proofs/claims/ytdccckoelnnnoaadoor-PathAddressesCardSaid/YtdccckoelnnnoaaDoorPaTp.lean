/- Path, plain: parsing and the text lead back to each other. -/
import Derived.Test.YtdccckoelnnnoaaDoorPaS
namespace Go.Proofs.YtdccckoelnnnoaaDoor

theorem bs_self (s : ByteArray) : bs s.data.toList = s := str_ext (bs_data _)
theorem nameB_list (s : ByteArray) : nameB s = nameL s.data.toList := by rw [← nameB_bs, bs_self]
theorem ptT_dot {p : Pt} (h : p.kind = 1) : (ptT p).data.toList = 46 :: p.name.data.toList := by unfold ptT; rw [if_pos h]; simp
theorem ptT_case {p : Pt} (h : p.kind = 4) : (ptT p).data.toList = 63 :: p.name.data.toList := by
  unfold ptT; rw [if_neg (by omega), if_neg (by omega), if_neg (by omega)]; simp
theorem ptT_all {p : Pt} (h : p.kind = 3) : (ptT p).data.toList = [91, 42, 93] := by
  unfold ptT; rw [if_neg (by omega), if_neg (by omega), if_pos h]
theorem ptT_index {p : Pt} (h : p.kind = 2) : (ptT p).data.toList = 91 :: (Lib.decDigits p.idx.toNat ++ [93]) := by
  unfold ptT; rw [if_neg (by omega), if_pos h]
  simp [decS]
/-- A text at whose head stands a stop, or nothing. -/
def headOk : List UInt8 → Prop
  | [] => True
  | c :: _ => isStop c = true
theorem upTo_app : ∀ {a r : List UInt8}, a.all okCh = true → headOk r → upTo (a ++ r) = a
  | [], [], _, _ => rfl
  | [], c :: r, _, h => by
    have h2 : isStop c = true := h
    unfold upTo
    rw [List.nil_append, List.takeWhile_cons, h2]
    rfl
  | c :: a, r, h, hr => by
    rw [List.all_cons, Bool.and_eq_true] at h
    have ih := upTo_app h.2 hr
    unfold upTo at *
    rw [List.cons_append, List.takeWhile_cons, ok_stop h.1]
    simp only [Bool.not_false, if_true]
    rw [ih]
theorem head_txt {p : Pt} (h : validB p = true) (r : List UInt8) : headOk ((ptT p).data.toList ++ r) := by
  obtain ⟨k, i, n⟩ := p
  by_cases h1 : k = 1
  · rw [ptT_dot h1]; exact (by decide : isStop 46 = true)
  by_cases h2 : k = 2
  · rw [ptT_index h2]; exact (by decide : isStop 91 = true)
  by_cases h3 : k = 3
  · rw [ptT_all h3]; exact (by decide : isStop 91 = true)
  by_cases h4 : k = 4
  · rw [ptT_case h4]; exact (by decide : isStop 63 = true)
  · simp [validB, h1, h2, h3, h4] at h
theorem nameL_all {l : List UInt8} (h : nameL l = true) : l.all okCh = true := by
  unfold nameL at h
  simp only [Bool.and_eq_true] at h
  exact h.2
theorem dec_93 (n : Nat) : (93 : UInt8) ∉ Lib.decDigits n := fun h => by
  have := dec_digit n 93 h
  have e : (93 : UInt8).toNat = 93 := rfl
  omega
theorem dec_42 (n : Nat) : ¬ Lib.decDigits n = [42] := fun h => by
  have := dec_digit n 42 (by rw [h]; simp)
  have e : (42 : UInt8).toNat = 42 := rfl
  omega
theorem step_txt {p : Pt} (hv : validB p = true) {r : List UInt8} (hr : headOk r) : stepP ((ptT p).data.toList ++ r) = some (p, r) := by
  obtain ⟨k, i, n⟩ := p
  by_cases h1 : k = 1
  · subst h1
    have hx : i = 0 ∧ nameB n = true := by simpa [validB] using hv
    obtain ⟨rfl, hn⟩ := hx
    rw [nameB_list] at hn
    rw [ptT_dot rfl]
    simp only [List.cons_append, stepP]
    rw [if_pos (by simp), upTo_app (nameL_all hn) hr, if_pos hn, bs_self]
    simp [kindOf]
  by_cases h4 : k = 4
  · subst h4
    have hx : i = 0 ∧ nameB n = true := by simpa [validB] using hv
    obtain ⟨rfl, hn⟩ := hx
    rw [nameB_list] at hn
    rw [ptT_case rfl]
    simp only [List.cons_append, stepP]
    rw [if_pos (by simp), upTo_app (nameL_all hn) hr, if_pos hn, bs_self]
    simp [kindOf]
  by_cases h2 : k = 2
  · subst h2
    have hx : (n.size = 0 ∧ 0 ≤ i) ∧ i < 256 := by simpa [validB] using hv
    obtain ⟨⟨hn, h0⟩, h256⟩ := hx
    obtain rfl := size_zero hn
    obtain ⟨j, rfl⟩ : ∃ j : Nat, i = (j : Int) := ⟨i.toNat, by omega⟩
    rw [ptT_index rfl]
    have e : (91 :: (Lib.decDigits (j : Int).toNat ++ [93])) ++ r = 91 :: (Lib.decDigits j ++ 93 :: r) := by simp
    have hst : stepP (91 :: (Lib.decDigits j ++ 93 :: r)) = brack (Lib.decDigits j ++ 93 :: r) := rfl
    rw [e, hst]
    unfold brack
    rw [cut_app (dec_93 j), if_pos rfl, if_neg (dec_42 j), numL_of (by omega)]
    rfl
  by_cases h3 : k = 3
  · subst h3
    have hx : n.size = 0 ∧ i = 0 := by simpa [validB] using hv
    obtain ⟨hn, rfl⟩ := hx
    obtain rfl := size_zero hn
    rw [ptT_all rfl]
    have hst : stepP ([91, 42, 93] ++ r) = brack ([42] ++ 93 :: r) := rfl
    rw [hst]
    unfold brack
    rw [cut_app (a := [42]) (by decide)]
    rfl
  · simp [validB, h1, h2, h3, h4] at hv
theorem txL_head : ∀ {l : List Pt}, l.all validB = true → headOk (txL l)
  | [], _ => trivial
  | p :: l, h => by
    rw [List.all_cons, Bool.and_eq_true] at h
    have e : txL (p :: l) = (ptT p).data.toList ++ txL l := by simp [txL]
    rw [e]; exact head_txt h.1 _
theorem parse_txt : ∀ (l : List Pt) (f : Nat), l.all validB = true → (txL l).length ≤ f → parseW stepP f (txL l) = some l
  | [], f, _, _ => by cases f <;> rfl
  | p :: l, f, h, hf => by
    rw [List.all_cons, Bool.and_eq_true] at h
    have e : txL (p :: l) = (ptT p).data.toList ++ txL l := by simp [txL]
    have hs := step_txt h.1 (txL_head h.2)
    have hlt := stepP_lt hs
    rw [e] at hf ⊢
    cases hx : (ptT p).data.toList ++ txL l with
    | nil => rw [hx] at hlt; simp at hlt
    | cons c m =>
      rw [hx] at hs hlt hf
      cases f with
      | zero => simp at hf
      | succ f =>
        simp only [parseW, hs]
        rw [parse_txt l f h.2 (by simp at hf hlt; omega)]
        rfl
theorem txtB_cons {L : List Pt} (h : okL L = true) : 46 :: (txtB L).data.toList = txL L := by
  obtain ⟨h1, _, _, _, h5⟩ := okL_parts h
  have e : (txtB L).data.toList = (txL L).tail := by unfold txtB; rw [if_pos h]
  rw [e]
  cases L with
  | nil => simp at h1
  | cons p l =>
    have hk : p.kind = 1 := h5
    have e2 : txL (p :: l) = (ptT p).data.toList ++ txL l := by simp [txL]
    rw [e2, ptT_dot hk]
    rfl
/-- The text of a path is parsed to it. -/
theorem text_back {L : List Pt} (h : okL L = true) : parL (txtB L).data.toList = L ∧ parE (txtB L).data.toList = 0 := by
  obtain ⟨h1, h16, hall, h201, h5⟩ := okL_parts h
  have hc := txtB_cons h
  have hlen : (txtB L).size + 1 = (txL L).length := by rw [← hc, List.length_cons, size_len]
  have hpos : 0 < (txtB L).size := by
    cases L with
    | nil => simp at h1
    | cons p l =>
      have hk : p.kind = 1 := h5
      have e2 : txL (p :: l) = (ptT p).data.toList ++ txL l := by simp [txL]
      rw [e2, ptT_dot hk] at hlen
      have hv : validB p = true := List.all_eq_true.1 hall p (by simp)
      have hx : p.idx = 0 ∧ nameB p.name = true := by simpa [validB, hk] using hv
      have hn : 0 < p.name.size := by
        have := hx.2
        unfold nameB at this
        rcases Nat.eq_zero_or_pos p.name.size with h0 | h0
        · rw [dif_neg (by omega)] at this; simp at this
        · exact h0
      simp at hlen
      omega
  have hp : parsesL (txtB L).data.toList = some L := by
    unfold parsesL
    rw [hc]
    exact parse_txt L _ hall (by rw [size_len]; omega)
  have h3 : ¬ (txtB L).data.toList = [] := fun e => by rw [← size_len, e] at hpos; simp at hpos
  have h4 : ¬ 200 < (txtB L).data.toList.length := by rw [size_len]; omega
  unfold parL parE
  rw [if_neg h3, if_neg h4, if_neg h3, if_neg h4, hp]
  simp only []
  rw [if_neg (by omega), if_neg (by omega)]
  exact ⟨rfl, rfl⟩

/-! The other way. -/
theorem upTo_split (l : List UInt8) : upTo l ++ l.drop (upTo l).length = l := by
  have h := List.take_append_drop (upTo l).length l
  rw [upTo_take] at h
  exact h
theorem step_back {l r : List UInt8} {p : Pt} (h : stepP l = some (p, r)) : validB p = true ∧ l = (ptT p).data.toList ++ r := by
  cases l with
  | nil => cases h
  | cons c m =>
    simp only [stepP] at h
    by_cases hc : c = 46 ∨ c = 63
    · rw [if_pos hc] at h
      by_cases hn : nameL (upTo m) = true
      · rw [if_pos hn] at h
        injection h with h
        injection h with h1 h2
        subst h1 h2
        have hnb : nameB (bs (upTo m)) = true := by rw [nameB_bs]; exact hn
        rcases hc with rfl | rfl
        · refine ⟨by simp [validB, kindOf, hnb], ?_⟩
          rw [ptT_dot rfl, bs_data, List.cons_append, upTo_split]
        · refine ⟨by simp [validB, kindOf, hnb], ?_⟩
          rw [ptT_case rfl, bs_data, List.cons_append, upTo_split]
      · rw [if_neg hn] at h; cases h
    · rw [if_neg hc] at h
      by_cases h91 : c = 91
      · rw [if_pos h91] at h
        subst h91
        unfold brack at h
        by_cases hf : (Lib.cut m [93]).2.2 = true
        · have hm := cut_found hf
          rw [if_pos hf] at h
          by_cases h42 : (Lib.cut m [93]).1 = [42]
          · rw [if_pos h42] at h
            injection h with h
            injection h with h1 h2
            subst h1
            rw [h42, h2] at hm
            refine ⟨by decide, ?_⟩
            rw [ptT_all rfl, hm]
            rfl
          · rw [if_neg h42] at h
            cases hn : numL (Lib.cut m [93]).1 with
            | none => rw [hn] at h; cases h
            | some i =>
              rw [hn] at h
              obtain ⟨hi, hd⟩ := numL_some hn
              injection h with h
              injection h with h1 h2
              subst h1
              rw [← hd, h2] at hm
              refine ⟨?_, ?_⟩
              · have h0 : (0 : Int) ≤ (i : Int) := by omega
                have h1 : (i : Int) < 256 := by omega
                unfold validB
                rw [if_neg (by simp), if_pos rfl, decide_eq_true h0, decide_eq_true h1]
                rfl
              · rw [ptT_index rfl]
                conv => lhs; rw [hm]
                simp
        · rw [if_neg hf] at h; cases h
      · rw [if_neg h91] at h; cases h
theorem parse_back : ∀ (f : Nat) (l : List UInt8) (L : List Pt), parseW stepP f l = some L → L.all validB = true ∧ l = txL L
  | f, [], L, h => by
    have : L = [] := by cases f <;> (simp only [parseW] at h; injection h with h; exact h.symm)
    subst this
    exact ⟨rfl, rfl⟩
  | 0, _ :: _, _, h => by simp [parseW] at h
  | f + 1, c :: m, L, h => by
    simp only [parseW] at h
    cases hs : stepP (c :: m) with
    | none => rw [hs] at h; cases h
    | some x =>
      obtain ⟨p, r⟩ := x
      rw [hs] at h
      simp only [] at h
      cases hr : parseW stepP f r with
      | none => rw [hr] at h; cases h
      | some M =>
        rw [hr] at h
        injection h with h
        subst h
        obtain ⟨h1, h2⟩ := step_back hs
        obtain ⟨h3, h4⟩ := parse_back f r M hr
        refine ⟨by rw [List.all_cons, h1, h3]; rfl, ?_⟩
        rw [h2, h4]
        simp [txL]
/-- What is parsed without an error has its text. -/
theorem parse_text {s : ByteArray} (h : parE s.data.toList = 0) : okL (parL s.data.toList) = true ∧ txtB (parL s.data.toList) = s := by
  unfold parE at h
  by_cases h0 : s.data.toList = []
  · rw [if_pos h0] at h; cases h
  rw [if_neg h0] at h
  by_cases h2 : 200 < s.data.toList.length
  · rw [if_pos h2] at h; cases h
  rw [if_neg h2] at h
  cases hp : parsesL s.data.toList with
  | none => rw [hp] at h; cases h
  | some L =>
    rw [hp] at h
    simp only [] at h
    by_cases h16 : 16 < L.length
    · rw [if_pos h16] at h; cases h
    have hL : parL s.data.toList = L := by unfold parL; rw [if_neg h0, if_neg h2, hp]; simp only []; rw [if_neg h16]
    rw [hL]
    unfold parsesL at hp
    obtain ⟨hall, ht⟩ := parse_back _ _ _ hp
    have hne : 1 ≤ L.length := by
      cases L with
      | nil => simp [txL] at ht
      | cons p l => simp
    have hk : (L.headD ⟨0, 0, ⟨#[]⟩⟩).kind = 1 := by
      cases L with
      | nil => simp at hne
      | cons p l =>
        have hv : validB p = true := List.all_eq_true.1 hall p (by simp)
        have e2 : txL (p :: l) = (ptT p).data.toList ++ txL l := by simp [txL]
        rw [e2] at ht
        show p.kind = 1
        obtain ⟨k, i, n⟩ := p
        by_cases h1 : k = 1
        · exact h1
        by_cases h2 : k = 2
        · rw [ptT_index h2] at ht; injection ht with ht; exact absurd ht (by decide)
        by_cases h3 : k = 3
        · rw [ptT_all h3] at ht; injection ht with ht; exact absurd ht (by decide)
        by_cases h4 : k = 4
        · rw [ptT_case h4] at ht; injection ht with ht; exact absurd ht (by decide)
        · simp [validB, h1, h2, h3, h4] at hv
    have hl : (txL L).length = s.data.toList.length + 1 := by rw [← ht]; rfl
    have hok : okL L = true := by
      unfold okL
      rw [hall, hk, decide_eq_true hne, decide_eq_true (show L.length ≤ 16 by omega), decide_eq_true (show (txL L).length ≤ 201 by omega)]
      rfl
    refine ⟨hok, str_ext ?_⟩
    have := txtB_cons hok
    rw [← ht] at this
    injection this
end Go.Proofs.YtdccckoelnnnoaaDoor
