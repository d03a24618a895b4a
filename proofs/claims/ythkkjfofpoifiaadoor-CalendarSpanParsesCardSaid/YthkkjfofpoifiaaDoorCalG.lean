/- Calendar, plain: the forms of texts. -/
import Derived.Test.YthkkjfofpoifiaaDoorCalT
import Derived.Test.YthkkjfofpoifiaaDoorCalP
namespace Go.Proofs.YthkkjfofpoifiaaDoor

/-- Whether a text begins with k digits. -/
def numOK (l : List UInt8) (k : Nat) : Bool := decide (k ≤ l.length) && (l.take k).all isDg
theorem numOK_iff {l : List UInt8} {k : Nat} : numOK l k = true ↔ k ≤ l.length ∧ ∀ c ∈ l.take k, isDg c = true := by
  unfold numOK
  simp [List.all_eq_true]
/-- Numbers behind marks, and the rest. -/
def parseN : List (List UInt8 × Nat) → List UInt8 → Option (List Nat × List UInt8)
  | [], l => some ([], l)
  | (mk, k) :: r, l =>
    if mk.isPrefixOf l = true ∧ numOK (l.drop mk.length) k = true then (parseN r ((l.drop mk.length).drop k)).map fun x => (numL ((l.drop mk.length).take k) :: x.1, x.2) else none

/-- Whether a text has a form, in which 0 stands for any digit. -/
def chOK (p c : UInt8) : Bool := if p = 48 then isDg c else decide (c = p)
def formB : List UInt8 → List UInt8 → Bool
  | [], [] => true
  | c :: l, p :: ps => chOK p c && formB l ps
  | _, _ => false
theorem formB_len : ∀ {l ps : List UInt8}, formB l ps = true → l.length = ps.length
  | [], [], _ => rfl
  | [], _ :: _, h => by simp [formB] at h
  | _ :: _, [], h => by simp [formB] at h
  | c :: l, p :: ps, h => by
    simp only [formB, Bool.and_eq_true] at h
    simp [formB_len h.2]
theorem formB_mark (p : UInt8) (hp : p ≠ 48) (l ps : List UInt8) : formB l (p :: ps) = (([p] : List UInt8).isPrefixOf l && formB (l.drop 1) ps) := by
  cases l with
  | nil => simp [formB]
  | cons c l =>
    simp only [formB, chOK, if_neg hp, List.drop_one, List.tail_cons, List.isPrefixOf]
    congr 1
    by_cases h : c = p
    · simp [h]
    · have : ¬ p = c := fun e => h e.symm
      simp [h, this]
theorem formB_digits : ∀ (k : Nat) (l ps : List UInt8), formB l (List.replicate k 48 ++ ps) = (numOK l k && formB (l.drop k) ps)
  | 0, l, ps => by simp [numOK]
  | k + 1, [], ps => by simp [numOK, List.replicate_succ, formB]
  | k + 1, c :: l, ps => by
    rw [List.replicate_succ, List.cons_append, formB, formB_digits k l ps]
    simp only [chOK, if_true, numOK, List.length_cons, List.take_succ_cons, List.all_cons, List.drop_succ_cons, Nat.add_le_add_iff_right]
    cases isDg c <;> simp

def pat3 : List UInt8 := [48, 48, 48, 48, 45, 48, 48, 45, 48, 48]
def marks3 : List (List UInt8 × Nat) := [([], 4), ([45], 2), ([45], 2)]
/-- The numbers of a date's text. -/
def nums3 (l : List UInt8) : List Nat := [numL (l.take 4), numL ((l.drop 5).take 2), numL ((l.drop 8).take 2)]

theorem one_pre {p : UInt8} {l : List UInt8} : ([p] : List UInt8).isPrefixOf l = true → 1 ≤ l.length := by
  cases l <;> simp [List.isPrefixOf]
theorem nil_pre (l : List UInt8) : ([] : List UInt8).isPrefixOf l = true := by cases l <;> rfl
theorem parse3 (l : List UInt8) : parseN marks3 l = if numOK l 4 = true ∧ ([45] : List UInt8).isPrefixOf (l.drop 4) = true ∧ numOK (l.drop 5) 2 = true ∧ ([45] : List UInt8).isPrefixOf (l.drop 7) = true ∧ numOK (l.drop 8) 2 = true then some (nums3 l, l.drop 10) else none := by
  unfold marks3 nums3
  simp only [parseN, List.length_nil, List.drop_zero, List.length_singleton, List.drop_drop, nil_pre, true_and, Nat.reduceAdd]
  by_cases h1 : numOK l 4 = true
  · by_cases h2 : ([45] : List UInt8).isPrefixOf (l.drop 4) = true ∧ numOK (l.drop 5) 2 = true
    · by_cases h3 : ([45] : List UInt8).isPrefixOf (l.drop 7) = true ∧ numOK (l.drop 8) 2 = true
      · rw [if_pos h1, if_pos h2, if_pos h3, if_pos ⟨h1, h2.1, h2.2, h3.1, h3.2⟩]
        rfl
      · rw [if_pos h1, if_pos h2, if_neg h3, if_neg (fun x => h3 ⟨x.2.2.2.1, x.2.2.2.2⟩)]
        rfl
    · rw [if_pos h1, if_neg h2, if_neg (fun x => h2 ⟨x.2.1, x.2.2.1⟩)]
      rfl
  · rw [if_neg h1, if_neg (fun x => h1 x.1)]
theorem form3 (l : List UInt8) : formB l pat3 = true ↔ (numOK l 4 = true ∧ ([45] : List UInt8).isPrefixOf (l.drop 4) = true ∧ numOK (l.drop 5) 2 = true ∧ ([45] : List UInt8).isPrefixOf (l.drop 7) = true ∧ numOK (l.drop 8) 2 = true) ∧ l.drop 10 = [] := by
  have e : pat3 = List.replicate 4 48 ++ (45 :: (List.replicate 2 48 ++ (45 :: (List.replicate 2 48 ++ [])))) := rfl
  rw [e, formB_digits, formB_mark 45 (by decide), formB_digits, formB_mark 45 (by decide), formB_digits]
  simp only [List.drop_drop, Nat.reduceAdd, Bool.and_eq_true]
  have e2 : formB (l.drop 10) [] = true ↔ l.drop 10 = [] := by
    cases l.drop 10 <;> simp [formB]
  rw [e2]
  simp only [and_assoc]

/-- What Parse returns. -/
def calP (l : List UInt8) : Int × Int :=
  if formB l pat3 = true then (if 1 ≤ numL (l.take 4) ∧ numL (l.take 4) ≤ 9999 ∧ 1 ≤ numL ((l.drop 5).take 2) ∧ numL ((l.drop 5).take 2) ≤ 12 ∧ 1 ≤ numL ((l.drop 8).take 2) ∧ (numL ((l.drop 8).take 2) : Int) ≤ mdays (numL (l.take 4)) (numL ((l.drop 5).take 2))
    then (dnum (numL (l.take 4)) (numL ((l.drop 5).take 2)) (numL ((l.drop 8).take 2)), 0) else (0, 17)) else (0, 13)
theorem calP_date {y m d : Nat} (h : Date y m d) (hy : y < 10000) (hm : m < 100) (hd : d < 100) : calP (dateL y m d) = (dnum y m d, 0) := by
  have l4 : (dgs y 4).length = 4 := dgs_len 4 y
  have l2 : (dgs m 2).length = 2 := dgs_len 2 m
  have l2' : (dgs d 2).length = 2 := dgs_len 2 d
  have t4 : (dateL y m d).take 4 = dgs y 4 := by unfold dateL; rw [List.take_append_of_le_length (by omega), List.take_of_length_le (by omega)]
  have d4 : (dateL y m d).drop 4 = 45 :: (dgs m 2 ++ 45 :: dgs d 2) := by unfold dateL; rw [List.drop_append_of_le_length (by omega), List.drop_of_length_le (by omega)]; rfl
  have d5 : (dateL y m d).drop 5 = dgs m 2 ++ 45 :: dgs d 2 := by
    have : (dateL y m d).drop 5 = ((dateL y m d).drop 4).drop 1 := by rw [List.drop_drop]
    rw [this, d4]; rfl
  have t5 : ((dateL y m d).drop 5).take 2 = dgs m 2 := by rw [d5, List.take_append_of_le_length (by omega), List.take_of_length_le (by omega)]
  have d7 : (dateL y m d).drop 7 = 45 :: dgs d 2 := by
    have : (dateL y m d).drop 7 = ((dateL y m d).drop 5).drop 2 := by rw [List.drop_drop]
    rw [this, d5, List.drop_append_of_le_length (by omega), List.drop_of_length_le (by omega)]; rfl
  have d8 : (dateL y m d).drop 8 = dgs d 2 := by
    have : (dateL y m d).drop 8 = ((dateL y m d).drop 7).drop 1 := by rw [List.drop_drop]
    rw [this, d7]; rfl
  have t8 : ((dateL y m d).drop 8).take 2 = dgs d 2 := by rw [d8, List.take_of_length_le (by omega)]
  have hf : formB (dateL y m d) pat3 = true := by
    rw [form3]
    refine ⟨⟨?_, ?_, ?_, ?_, ?_⟩, ?_⟩
    · rw [numOK_iff, t4]; exact ⟨by rw [dateL_len]; omega, dgs_dg 4 y⟩
    · rw [d4]; rfl
    · rw [numOK_iff, t5, d5]; exact ⟨by simp; omega, dgs_dg 2 m⟩
    · rw [d7]; rfl
    · rw [numOK_iff, t8, d8]; exact ⟨by omega, dgs_dg 2 d⟩
    · exact List.drop_of_length_le (by rw [dateL_len]; omega)
  unfold calP
  rw [if_pos hf, t4, t5, t8, numL_dgs 4 y (by omega), numL_dgs 2 m (by omega), numL_dgs 2 d (by omega)]
  have h1 := h.y1; have h2 := h.y2; have h3 := h.m1; have h4 := h.m2; have h5 := h.d1; have h6 := h.d2
  rw [if_pos ⟨by omega, by omega, by omega, by omega, by omega, h6⟩]

end Go.Proofs.YthkkjfofpoifiaaDoor
