/- Path: parsing, plain: the steps of the package and of the reference lead to the same parts. -/
import Derived.Test.YtdccckoelnnnoaaDoorPaW
import Derived.Test.YtdccckoelnnnoaaDoorPaM
namespace Go.Proofs.YtdccckoelnnnoaaDoor

def bs (l : List UInt8) : ByteArray := ⟨l.toArray⟩
theorem bs_size (l : List UInt8) : (bs l).size = l.length := by show l.toArray.size = _; simp
theorem bs_data (l : List UInt8) : (bs l).data.toList = l := by unfold bs; simp
theorem bs_get (l : List UInt8) (i : Nat) (h : i < (bs l).size) : (bs l)[i] = l[i]'(by rw [← bs_size]; exact h) := by
  have h' : i < l.toArray.size := h
  exact List.getElem_toArray h'
def firstL : List UInt8 → Bool
  | [] => false
  | c :: _ => isLow c
def nameL (l : List UInt8) : Bool := decide (l.length ≤ 32) && firstL l && l.all okCh
theorem nameB_bs (l : List UInt8) : nameB (bs l) = nameL l := by
  have hA : AllTo (bs l) (bs l).size ↔ l.all okCh = true := by
    constructor
    · intro h
      rw [List.all_eq_true]
      intro x hx
      obtain ⟨i, hi, e⟩ := List.mem_iff_getElem.1 hx
      have h2 := h i (by rw [bs_size]; exact hi) (by rw [bs_size]; exact hi)
      rw [bs_get, e] at h2
      exact h2
    · intro h i hi _
      rw [bs_get]
      exact List.all_eq_true.1 h _ (List.getElem_mem _)
  have hB : (if h : 0 < (bs l).size then isLow (bs l)[0] else false) = firstL l := by
    cases l with
    | nil => rfl
    | cons c l => rw [dif_pos (by rw [bs_size]; simp), bs_get]; rfl
  have hC : decide (AllTo (bs l) (bs l).size) = l.all okCh := by
    by_cases h : l.all okCh = true
    · rw [h, decide_eq_true (hA.2 h)]
    · rw [decide_eq_false (fun x => h (hA.1 x))]
      simpa using h
  unfold nameB nameL
  rw [hB, hC, bs_size]

def isStop (c : UInt8) : Bool := [46, 91, 63].contains c
theorem low_ok {c : UInt8} (h : isLow c = true) : okCh c = true := by unfold okCh; rw [h]; rfl
theorem ok_stop {c : UInt8} (h : okCh c = true) : isStop c = false := by
  cases hs : isStop c with
  | false => rfl
  | true =>
    unfold isStop at hs
    simp only [List.contains_cons, List.contains_nil, Bool.or_false, Bool.or_eq_true, beq_iff_eq] at hs
    rcases hs with rfl | rfl | rfl <;> revert h <;> decide
/-- The bytes up to the next stop. -/
def upTo (l : List UInt8) : List UInt8 := l.takeWhile fun c => !isStop c
def runL : List UInt8 → Nat
  | [] => 0
  | c :: r => if isLow c = true then 1 + (r.takeWhile okCh).length else 0
theorem runL_cons (c : UInt8) (r : List UInt8) : runL (c :: r) = if isLow c = true then 1 + (r.takeWhile okCh).length else 0 := rfl
def wordL (l : List UInt8) : Nat := if 32 < runL l then 0 else runL l
theorem take_while_le (l : List UInt8) : (l.takeWhile okCh).length ≤ (upTo l).length := by
  induction l with
  | nil => simp
  | cons c l ih =>
    unfold upTo at *
    rw [List.takeWhile_cons, List.takeWhile_cons]
    cases h : okCh c with
    | false => simp
    | true => rw [ok_stop h]; simpa using ih
theorem run_le (l : List UInt8) : runL l ≤ (upTo l).length := by
  cases l with
  | nil => simp [runL]
  | cons c l =>
    rw [runL_cons]
    split
    · rename_i h
      have := take_while_le l
      unfold upTo at *
      rw [List.takeWhile_cons, ok_stop (low_ok h)]
      simp
      omega
    · omega
theorem run_zero {l : List UInt8} (h : runL l = 0) : nameL (upTo l) = false := by
  cases l with
  | nil => rfl
  | cons c l =>
    have hc : isLow c = false := by
      cases hc : isLow c with
      | false => rfl
      | true => rw [runL_cons, if_pos hc] at h; omega
    unfold upTo
    rw [List.takeWhile_cons]
    split
    · unfold nameL firstL
      simp [hc]
    · rfl
theorem while_eq (l : List UInt8) (h : (l.takeWhile okCh).length = (upTo l).length) : (upTo l).all okCh = true := by
  induction l with
  | nil => rfl
  | cons c l ih =>
    unfold upTo at *
    rw [List.takeWhile_cons, List.takeWhile_cons] at h
    rw [List.takeWhile_cons]
    cases hc : okCh c with
    | false =>
      rw [hc] at h
      cases hs : isStop c with
      | true => simp
      | false => rw [hs] at h; simp at h
    | true =>
      rw [hc, ok_stop hc] at h
      rw [ok_stop hc]
      simp only [Bool.not_false, if_true, List.length_cons] at h ⊢
      rw [List.all_cons, hc, ih (by simpa using h)]
      rfl
/-- A letter that is no letter of a name, and no stop, stands behind the run. -/
theorem while_lt (l : List UInt8) (h : (l.takeWhile okCh).length < (upTo l).length) : (upTo l).all okCh = false ∧ ∃ c r, l.drop (l.takeWhile okCh).length = c :: r ∧ isStop c = false := by
  induction l with
  | nil => simp [upTo] at h
  | cons c l ih =>
    unfold upTo at *
    rw [List.takeWhile_cons, List.takeWhile_cons] at h
    rw [List.takeWhile_cons, List.takeWhile_cons]
    cases hc : okCh c with
    | false =>
      rw [hc] at h
      cases hs : isStop c with
      | true => rw [hs] at h; simp at h
      | false =>
        simp only [Bool.not_false, if_true]
        refine ⟨by rw [List.all_cons, hc]; rfl, c, l, rfl, hs⟩
    | true =>
      rw [hc, ok_stop hc] at h
      rw [ok_stop hc]
      simp only [Bool.not_false, if_true, List.length_cons] at h ⊢
      have := ih (by simpa using h)
      refine ⟨by rw [List.all_cons, this.1, Bool.and_false], ?_⟩
      simpa using this.2
theorem run_eq {l : List UInt8} (h0 : 0 < runL l) (h1 : runL l ≤ 32) (h : runL l = (upTo l).length) : nameL (upTo l) = true := by
  cases l with
  | nil => simp [runL] at h0
  | cons c l =>
    have hc : isLow c = true := by
      cases hc : isLow c with
      | true => rfl
      | false => rw [runL_cons, if_neg (by rw [hc]; decide)] at h0; omega
    rw [runL_cons, if_pos hc] at h h1
    have e : upTo (c :: l) = c :: upTo l := by unfold upTo; rw [List.takeWhile_cons, ok_stop (low_ok hc)]; rfl
    rw [e, List.length_cons] at h
    rw [e]
    unfold nameL
    have hw := while_eq l (by omega)
    have h32 : (c :: upTo l).length ≤ 32 := by rw [List.length_cons]; omega
    rw [decide_eq_true h32, List.all_cons, low_ok hc, hw]
    simp [hc, firstL]
theorem run_lt {l : List UInt8} (h0 : 0 < runL l) (h : runL l < (upTo l).length) : nameL (upTo l) = false ∧ ∃ c r, l.drop (runL l) = c :: r ∧ isStop c = false := by
  cases l with
  | nil => simp [runL] at h0
  | cons c l =>
    have hc : isLow c = true := by
      cases hc : isLow c with
      | true => rfl
      | false => rw [runL_cons, if_neg (by rw [hc]; decide)] at h0; omega
    have hr : runL (c :: l) = 1 + (l.takeWhile okCh).length := by rw [runL_cons, if_pos hc]
    have e : upTo (c :: l) = c :: upTo l := by unfold upTo; rw [List.takeWhile_cons, ok_stop (low_ok hc)]; rfl
    rw [hr, e, List.length_cons] at h
    have hw := while_lt l (by omega)
    rw [hr, e]
    refine ⟨?_, ?_⟩
    · unfold nameL
      rw [List.all_cons, hw.1]
      simp
    · rw [Nat.add_comm, List.drop_succ_cons]
      exact hw.2

/-! Steps. -/
def numL (l : List UInt8) : Option Nat := (List.range 256).find? fun i => decide (Lib.decDigits i = l)
theorem dec_inj {i j : Nat} (hi : i < 1000) (hj : j < 1000) (h : Lib.decDigits i = Lib.decDigits j) : i = j := by
  have h1 := parse_dec i (by omega)
  have h2 := parse_dec j (by omega)
  rw [h, h2] at h1
  injection h1 with h1
  exact h1.symm
theorem numL_some {l : List UInt8} {i : Nat} (h : numL l = some i) : i < 256 ∧ Lib.decDigits i = l := by
  unfold numL at h
  have h1 := List.find?_some h
  have h2 := List.mem_of_find?_eq_some h
  exact ⟨by simpa using h2, by simpa using h1⟩
theorem numL_of {i : Nat} (h : i < 256) : numL (Lib.decDigits i) = some i := by
  cases hx : numL (Lib.decDigits i) with
  | none =>
    unfold numL at hx
    rw [List.find?_eq_none] at hx
    exact absurd (hx i (by simpa using h)) (by simp)
  | some j =>
    obtain ⟨h1, h2⟩ := numL_some hx
    rw [dec_inj (by omega) (by omega) h2]
theorem numL_none {l : List UInt8} (h : ∀ i, i < 256 → ¬ Lib.decDigits i = l) : numL l = none := by
  cases hx : numL l with
  | none => rfl
  | some j => exact absurd (numL_some hx).2 (h j (numL_some hx).1)
/-- What stands in brackets. -/
def brack (r : List UInt8) : Option (Pt × List UInt8) :=
  if (Lib.cut r [93]).2.2 = true then
    if (Lib.cut r [93]).1 = [42] then some (⟨3, 0, ⟨#[]⟩⟩, (Lib.cut r [93]).2.1)
    else (numL (Lib.cut r [93]).1).map fun (i : Nat) => (⟨2, (i : Int), ⟨#[]⟩⟩, (Lib.cut r [93]).2.1)
  else none
def kindOf (c : UInt8) : Int := if c = 46 then 1 else 4
def stepP : List UInt8 → Option (Pt × List UInt8)
  | [] => none
  | c :: r =>
    if c = 46 ∨ c = 63 then (if nameL (upTo r) = true then some (⟨kindOf c, 0, bs (upTo r)⟩, r.drop (upTo r).length) else none)
    else if c = 91 then brack r else none
def stepR : List UInt8 → Option (Pt × List UInt8)
  | [] => none
  | c :: r =>
    if c = 46 ∨ c = 63 then (if wordL r = 0 then none else some (⟨kindOf c, 0, bs (r.take (wordL r))⟩, r.drop (wordL r)))
    else if c = 91 then brack r else none
def parseW (step : List UInt8 → Option (Pt × List UInt8)) : Nat → List UInt8 → Option (List Pt)
  | _, [] => some []
  | 0, _ :: _ => none
  | f + 1, c :: l => match step (c :: l) with
    | none => none
    | some (p, r) => (parseW step f r).map (p :: ·)
theorem upTo_take (l : List UInt8) : l.take (upTo l).length = upTo l := by
  have h : upTo l <+: l := List.takeWhile_prefix _
  exact (List.prefix_iff_eq_take.1 h).symm
theorem name_len {l : List UInt8} (h : 32 < l.length) : nameL l = false := by unfold nameL; rw [decide_eq_false (by omega)]; rfl
theorem parse_same : ∀ (f : Nat) (l : List UInt8), parseW stepR f l = parseW stepP f l
  | 0, [] => rfl
  | 0, _ :: _ => rfl
  | f + 1, [] => rfl
  | f + 1, c :: r => by
    simp only [parseW, stepP, stepR]
    by_cases hc : c = 46 ∨ c = 63
    · rw [if_pos hc, if_pos hc]
      by_cases h32 : 32 < runL r
      · have hw : wordL r = 0 := by unfold wordL; rw [if_pos h32]
        have hl := run_le r
        rw [if_pos hw, if_neg (by rw [name_len (by omega)]; decide)]
      · have hw : wordL r = runL r := by unfold wordL; rw [if_neg h32]
        rw [hw]
        by_cases h0 : runL r = 0
        · rw [if_pos h0, if_neg (by rw [run_zero h0]; decide)]
        · rw [if_neg h0]
          have hl := run_le r
          by_cases he : runL r = (upTo r).length
          · rw [if_pos (run_eq (by omega) (by omega) he), he, upTo_take]
            simp only []
            rw [parse_same f]
          · obtain ⟨h1, c', r', h2, h3⟩ := run_lt (l := r) (by omega) (by omega)
            rw [if_neg (by rw [h1]; decide)]
            simp only []
            rw [h2]
            have hn : stepR (c' :: r') = none := by
              unfold isStop at h3
              simp only [List.contains_cons, List.contains_nil, Bool.or_false, Bool.or_eq_false_iff, beq_eq_false_iff_ne] at h3
              have hx : ¬ (c' = 46 ∨ c' = 63) := by
                rintro (h | h)
                · exact h3.1 h
                · exact h3.2.2 h
              simp only [stepR]
              rw [if_neg hx, if_neg h3.2.1]
            cases f with
            | zero => rfl
            | succ f => simp only [parseW, hn]; rfl
    · rw [if_neg hc, if_neg hc]
      by_cases h91 : c = 91
      · rw [if_pos h91]
        cases hb : brack r with
        | none => rfl
        | some x => simp only []; rw [parse_same f]
      · rw [if_neg h91]
/-- What both Parse return. -/
def parsesL (l : List UInt8) : Option (List Pt) := parseW stepP (l.length + 1) (46 :: l)
def parE (s : List UInt8) : Int :=
  if s = [] then 4 else if 200 < s.length then 5 else match parsesL s with
    | none => 13
    | some l => if 16 < l.length then 9 else 0
def parL (s : List UInt8) : List Pt := if s = [] then [] else if 200 < s.length then [] else match parsesL s with
    | none => []
    | some l => if 16 < l.length then [] else l
theorem brack_lt {r : List UInt8} {p : Pt} {x : List UInt8} (h : brack r = some (p, x)) : x.length ≤ r.length := by
  have hc := (cut_le r [93]).2
  have hx : x = (Lib.cut r [93]).2.1 := by
    unfold brack at h
    by_cases h1 : (Lib.cut r [93]).2.2 = true
    · rw [if_pos h1] at h
      by_cases h2 : (Lib.cut r [93]).1 = [42]
      · rw [if_pos h2] at h
        injection h with h
        injection h with _ h
        exact h.symm
      · rw [if_neg h2] at h
        cases hn : numL (Lib.cut r [93]).1 with
        | none => rw [hn] at h; cases h
        | some i =>
          rw [hn] at h
          injection h with h
          injection h with _ h
          exact h.symm
    · rw [if_neg h1] at h
      cases h
  rw [hx]; exact hc
theorem stepP_lt {l r : List UInt8} {p : Pt} (h : stepP l = some (p, r)) : r.length < l.length := by
  cases l with
  | nil => cases h
  | cons c l =>
    simp only [stepP] at h
    split at h
    · split at h
      · simp only [Option.some.injEq, Prod.mk.injEq] at h
        rw [← h.2, List.length_drop, List.length_cons]
        omega
      · cases h
    · split at h
      · have := brack_lt h
        simp
        omega
      · cases h
theorem stepR_lt {l r : List UInt8} {p : Pt} (h : stepR l = some (p, r)) : r.length < l.length := by
  cases l with
  | nil => cases h
  | cons c l =>
    simp only [stepR] at h
    split at h
    · split at h
      · cases h
      · simp only [Option.some.injEq, Prod.mk.injEq] at h
        rw [← h.2, List.length_drop, List.length_cons]
        omega
    · split at h
      · have := brack_lt h
        simp
        omega
      · cases h
theorem parseW_fuel {step : List UInt8 → Option (Pt × List UInt8)} (hs : ∀ l r p, step l = some (p, r) → r.length < l.length) : ∀ (f g : Nat) (l : List UInt8), l.length ≤ f → l.length ≤ g → parseW step f l = parseW step g l
  | 0, 0, _, _, _ => rfl
  | 0, g + 1, [], _, _ => rfl
  | 0, g + 1, c :: l, h, _ => by simp at h
  | f + 1, 0, [], _, _ => rfl
  | f + 1, 0, c :: l, _, h => by simp at h
  | f + 1, g + 1, [], _, _ => rfl
  | f + 1, g + 1, c :: l, h, h' => by
    simp only [parseW]
    cases hx : step (c :: l) with
    | none => rfl
    | some x =>
      obtain ⟨p, r⟩ := x
      have := hs _ _ _ hx
      simp only []
      rw [parseW_fuel hs f g r (by omega) (by omega)]
end Go.Proofs.YtdccckoelnnnoaaDoor
