/- Calendar, plain: the texts of times. -/
import Derived.Test.YthkkjfofpoifiaaDoorCalG
namespace Go.Proofs.YthkkjfofpoifiaaDoor

/-- Whether numbers stand behind marks. -/
def okN : List (List UInt8 × Nat) → List UInt8 → Bool
  | [], _ => true
  | (mk, k) :: r, l => mk.isPrefixOf l && numOK (l.drop mk.length) k && okN r ((l.drop mk.length).drop k)
def numsN : List (List UInt8 × Nat) → List UInt8 → List Nat
  | [], _ => []
  | (mk, k) :: r, l => numL ((l.drop mk.length).take k) :: numsN r ((l.drop mk.length).drop k)
def restN : List (List UInt8 × Nat) → List UInt8 → List UInt8
  | [], l => l
  | (mk, k) :: r, l => restN r ((l.drop mk.length).drop k)
def patOf : List (List UInt8 × Nat) → List UInt8
  | [] => []
  | (mk, k) :: r => mk ++ (List.replicate k 48 ++ patOf r)
theorem parseN_eq : ∀ (ms : List (List UInt8 × Nat)) (l : List UInt8), parseN ms l = if okN ms l = true then some (numsN ms l, restN ms l) else none
  | [], l => by simp [parseN, okN, numsN, restN]
  | (mk, k) :: r, l => by
    simp only [parseN, okN, numsN, restN, Bool.and_eq_true]
    rw [parseN_eq r]
    by_cases h : mk.isPrefixOf l = true ∧ numOK (l.drop mk.length) k = true
    · by_cases h2 : okN r ((l.drop mk.length).drop k) = true
      · rw [if_pos h, if_pos h2, if_pos ⟨h, h2⟩]; rfl
      · rw [if_pos h, if_neg h2, if_neg (fun x => h2 x.2)]; rfl
    · rw [if_neg h, if_neg (fun x => h x.1)]
theorem formB_marks : ∀ (mk : List UInt8), (∀ p ∈ mk, p ≠ 48) → ∀ (l ps : List UInt8), formB l (mk ++ ps) = (mk.isPrefixOf l && formB (l.drop mk.length) ps)
  | [], _, l, ps => by simp [List.isPrefixOf]
  | p :: mk, h, l, ps => by
    rw [List.cons_append, formB_mark p (h p (by simp)), formB_marks mk (fun q hq => h q (by simp [hq]))]
    cases l with
    | nil => simp [List.isPrefixOf]
    | cons c l => simp [List.isPrefixOf, Bool.and_assoc]
theorem formB_pat : ∀ (ms : List (List UInt8 × Nat)), (∀ x ∈ ms, ∀ p ∈ x.1, p ≠ 48) → ∀ (l ps : List UInt8), formB l (patOf ms ++ ps) = (okN ms l && formB (restN ms l) ps)
  | [], _, l, ps => by simp [patOf, okN, restN]
  | (mk, k) :: r, h, l, ps => by
    simp only [patOf, okN, restN]
    rw [List.append_assoc, formB_marks mk (h (mk, k) (by simp)), List.append_assoc, formB_digits, formB_pat r (fun x hx => h x (by simp [hx]))]
    simp only [Bool.and_assoc]

def marks6 : List (List UInt8 × Nat) := [([], 4), ([45], 2), ([45], 2), ([84], 2), ([58], 2), ([58], 2)]
def patT : List UInt8 := [48, 48, 48, 48, 45, 48, 48, 45, 48, 48, 84, 48, 48, 58, 48, 48, 58, 48, 48, 90]
def patF : List UInt8 := [48, 48, 48, 48, 45, 48, 48, 45, 48, 48, 84, 48, 48, 58, 48, 48, 58, 48, 48, 46, 48, 48, 48, 90]
/-- The numbers of a time's text. -/
def nums6 (l : List UInt8) : List Nat := [numL (l.take 4), numL ((l.drop 5).take 2), numL ((l.drop 8).take 2), numL ((l.drop 11).take 2), numL ((l.drop 14).take 2), numL ((l.drop 17).take 2)]
theorem nums6_eq (l : List UInt8) : numsN marks6 l = nums6 l := by simp [numsN, marks6, nums6, List.drop_drop]
theorem rest6_eq (l : List UInt8) : restN marks6 l = l.drop 19 := by simp [restN, marks6, List.drop_drop]
theorem parse6 (l : List UInt8) : parseN marks6 l = if okN marks6 l = true then some (nums6 l, l.drop 19) else none := by rw [parseN_eq, nums6_eq, rest6_eq]
theorem marks6_48 : ∀ x ∈ marks6, ∀ p ∈ x.1, p ≠ 48 := by decide
theorem formB_nil (l : List UInt8) : formB l [] = true ↔ l = [] := by cases l <;> simp [formB]
theorem formB_one (l : List UInt8) : formB l [90] = true ↔ l = [90] := by
  rcases l with _ | ⟨c, _ | ⟨c2, l⟩⟩
  · simp [formB]
  · simp [formB, chOK]
  · simp [formB]
theorem formT (l : List UInt8) : formB l patT = true ↔ okN marks6 l = true ∧ l.drop 19 = [90] := by
  rw [show patT = patOf marks6 ++ [90] from rfl, formB_pat _ marks6_48, rest6_eq, Bool.and_eq_true, formB_one]
theorem formF (l : List UInt8) : formB l patF = true ↔ okN marks6 l = true ∧ ([46] : List UInt8).isPrefixOf (l.drop 19) = true ∧ numOK (l.drop 20) 3 = true ∧ l.drop 23 = [90] := by
  rw [show patF = patOf marks6 ++ ([46] ++ (List.replicate 3 48 ++ [90])) from rfl, formB_pat _ marks6_48, rest6_eq, formB_marks [46] (by decide), formB_digits]
  simp only [Bool.and_eq_true, formB_one, List.length_singleton, List.drop_drop, Nat.reduceAdd]
theorem ok6 (l : List UInt8) : okN marks6 l = true ↔ (numOK l 4 = true ∧ ([45] : List UInt8).isPrefixOf (l.drop 4) = true ∧ numOK (l.drop 5) 2 = true ∧ ([45] : List UInt8).isPrefixOf (l.drop 7) = true ∧ numOK (l.drop 8) 2 = true) ∧ numOK (l.drop 11) 2 = true ∧ numOK (l.drop 14) 2 = true ∧ numOK (l.drop 17) 2 = true ∧ ([84] : List UInt8).isPrefixOf (l.drop 10) = true ∧ ([58] : List UInt8).isPrefixOf (l.drop 13) = true ∧ ([58] : List UInt8).isPrefixOf (l.drop 16) = true := by
  simp only [okN, marks6, Bool.and_eq_true, List.length_nil, List.drop_zero, List.length_singleton, List.drop_drop, nil_pre, true_and, Nat.reduceAdd]
  constructor
  · rintro ⟨a, ⟨b, c⟩, ⟨d, e⟩, ⟨f, g⟩, ⟨h, i⟩, ⟨j, k⟩, -⟩
    exact ⟨⟨a, b, c, d, e⟩, g, i, k, f, h, j⟩
  · rintro ⟨⟨a, b, c, d, e⟩, g, i, k, f, h, j⟩
    exact ⟨a, ⟨b, c⟩, ⟨d, e⟩, ⟨f, g⟩, ⟨h, i⟩, ⟨j, k⟩, trivial⟩

/-- The date of a time's text is good. -/
def DateOf (l : List UInt8) : Prop := Date (numL (l.take 4)) (numL ((l.drop 5).take 2)) (numL ((l.drop 8).take 2))
theorem dateOf_iff (l : List UInt8) : DateOf l ↔ (1 ≤ numL (l.take 4) ∧ numL (l.take 4) ≤ 9999 ∧ 1 ≤ numL ((l.drop 5).take 2) ∧ numL ((l.drop 5).take 2) ≤ 12 ∧ 1 ≤ numL ((l.drop 8).take 2) ∧ (numL ((l.drop 8).take 2) : Int) ≤ mdays (numL (l.take 4)) (numL ((l.drop 5).take 2))) :=
  ⟨fun h => ⟨by have := h.y1; omega, by have := h.y2; omega, by have := h.m1; omega, by have := h.m2; omega, by have := h.d1; omega, h.d2⟩, fun h => ⟨by omega, by omega, by omega, by omega, by omega, h.2.2.2.2.2⟩⟩
instance (l : List UInt8) : Decidable (DateOf l) := decidable_of_iff _ (dateOf_iff l).symm
/-- The time of a text with a good form. -/
def finT (l : List UInt8) (ms : Nat) : Int × Int :=
  if DateOf l ∧ numL ((l.drop 11).take 2) ≤ 23 ∧ numL ((l.drop 14).take 2) ≤ 59 ∧ numL ((l.drop 17).take 2) ≤ 59
  then (dnum (numL (l.take 4)) (numL ((l.drop 5).take 2)) (numL ((l.drop 8).take 2)) * 86400000 + (((60 * (numL ((l.drop 11).take 2) : Int) + numL ((l.drop 14).take 2)) * 60 + numL ((l.drop 17).take 2)) * 1000 + ms), 0) else (0, 17)
/-- What ParseTime returns. -/
def calT (l : List UInt8) : Int × Int :=
  if okN marks6 l = true then
    if ([46] : List UInt8).isPrefixOf (l.drop 19) = true then
      if numOK (l.drop 20) 3 = true ∧ ¬ numL ((l.drop 20).take 3) = 0 ∧ l.drop 23 = [90] then finT l (numL ((l.drop 20).take 3)) else (0, 13)
    else if l.drop 19 = [90] then finT l 0 else (0, 13)
  else (0, 13)
theorem calT_bad {l : List UInt8} (h : parseN marks6 l = none) : calT l = (0, 13) := by
  rw [parse6] at h
  unfold calT
  rw [if_neg]
  intro hf
  rw [if_pos hf] at h
  cases h
theorem calT_ok {l rest : List UInt8} {ns : List Nat} (h : parseN marks6 l = some (ns, rest)) : okN marks6 l = true ∧ ns = nums6 l ∧ rest = l.drop 19 := by
  rw [parse6] at h
  split at h
  · rename_i hc
    rw [Option.some.injEq, Prod.mk.injEq] at h
    exact ⟨hc, h.1.symm, h.2.symm⟩
  · cases h
theorem one_pre_drop {p : UInt8} {l : List UInt8} {k : Nat} (h : ([p] : List UInt8).isPrefixOf (l.drop k) = true) : (l.drop k).take 1 = [p] := by
  cases e : l.drop k with
  | nil => rw [e] at h; simp [List.isPrefixOf] at h
  | cons c r =>
    rw [e] at h
    simp [List.isPrefixOf] at h
    simp [h]
theorem numL_zero {l : List UInt8} (hl : l.length = 3) (hd : ∀ c ∈ l, isDg c = true) : numL l = 0 ↔ l = [48, 48, 48] := by
  constructor
  · intro h
    have := dgs_numL 3 l hl hd
    rw [h, dgs_zero] at this
    exact this.symm
  · intro h; subst h; rfl
theorem calT_frac {l : List UInt8} (h : okN marks6 l = true) (h1 : ([46] : List UInt8).isPrefixOf (l.drop 19) = true) (h2 : numOK (l.drop 20) 3 = true) (h3 : ¬ numL ((l.drop 20).take 3) = 0) (h4 : l.drop 23 = [90]) : calT l = finT l (numL ((l.drop 20).take 3)) := by
  unfold calT
  rw [if_pos h, if_pos h1, if_pos ⟨h2, h3, h4⟩]
theorem calT_frac_no {l : List UInt8} (h : okN marks6 l = true) (h1 : ([46] : List UInt8).isPrefixOf (l.drop 19) = true) (h2 : ¬ (numOK (l.drop 20) 3 = true ∧ ¬ numL ((l.drop 20).take 3) = 0 ∧ l.drop 23 = [90])) : calT l = (0, 13) := by
  unfold calT
  rw [if_pos h, if_pos h1, if_neg h2]
theorem calT_whole {l : List UInt8} (h : okN marks6 l = true) (h4 : l.drop 19 = [90]) : calT l = finT l 0 := by
  unfold calT
  rw [if_pos h, if_neg (by rw [h4]; decide), if_pos h4]
theorem calT_whole_no {l : List UInt8} (h : okN marks6 l = true) (h1 : ¬ ([46] : List UInt8).isPrefixOf (l.drop 19) = true) (h4 : ¬ l.drop 19 = [90]) : calT l = (0, 13) := by
  unfold calT
  rw [if_pos h, if_neg h1, if_neg h4]
theorem calT_no {l : List UInt8} (h1 : ¬ (formB l patF = true ∧ ¬ (l.drop 20).take 3 = [48, 48, 48])) (h2 : formB l patT = false) : calT l = (0, 13) := by
  unfold calT
  split
  · rename_i h
    have h4 : ¬ l.drop 19 = [90] := fun e => by
      have := (formT l).2 ⟨h, e⟩
      rw [h2] at this; cases this
    split
    · rename_i hp
      rw [if_neg]
      rintro ⟨n1, n2, n3⟩
      refine h1 ⟨(formF l).2 ⟨h, hp, n1, n3⟩, fun e => n2 ?_⟩
      rw [e]; rfl
    · rfl
  · rfl
theorem finT_yes {l : List UInt8} {ms : Nat} (h : DateOf l) (h1 : numL ((l.drop 11).take 2) ≤ 23) (h2 : numL ((l.drop 14).take 2) ≤ 59) (h3 : numL ((l.drop 17).take 2) ≤ 59) : finT l ms = (dnum (numL (l.take 4)) (numL ((l.drop 5).take 2)) (numL ((l.drop 8).take 2)) * 86400000 + (((60 * (numL ((l.drop 11).take 2) : Int) + numL ((l.drop 14).take 2)) * 60 + numL ((l.drop 17).take 2)) * 1000 + ms), 0) := by
  unfold finT; rw [if_pos ⟨h, h1, h2, h3⟩]
theorem finT_no {l : List UInt8} {ms : Nat} (h : ¬ (DateOf l ∧ numL ((l.drop 11).take 2) ≤ 23 ∧ numL ((l.drop 14).take 2) ≤ 59 ∧ numL ((l.drop 17).take 2) ≤ 59)) : finT l ms = (0, 17) := by
  unfold finT; rw [if_neg h]
theorem frac_ms {l : List UInt8} (h : numOK (l.drop 20) 3 = true) (h2 : ¬ (l.drop 20).take 3 = [48, 48, 48]) : ¬ numL ((l.drop 20).take 3) = 0 := by
  obtain ⟨h3, h4⟩ := numOK_iff.1 h
  rw [numL_zero (by rw [List.length_take]; omega) h4]
  exact h2
theorem num_len {l : List UInt8} {k : Nat} (h : numOK l k = true) : k ≤ l.length := (numOK_iff.1 h).1
theorem take_num {l : List UInt8} {a k : Nat} (n : Nat) (hn : a + k ≤ n) (h : numOK (l.drop a) k = true) : numOK ((l.take n).drop a) k = true := by
  rw [numOK_iff] at h ⊢
  have e : ((l.take n).drop a).take k = (l.drop a).take k := by
    rw [List.drop_take, List.take_take, Nat.min_eq_left (by omega)]
  rw [e]
  refine ⟨?_, h.2⟩
  have := h.1
  rw [List.length_drop] at this ⊢
  rw [List.length_take]
  omega
theorem take_cut (l : List UInt8) (n a k : Nat) (hn : a + k ≤ n) : ((l.take n).drop a).take k = (l.drop a).take k := by
  rw [List.drop_take, List.take_take, Nat.min_eq_left (by omega)]
theorem take_pre {l : List UInt8} {a : Nat} {p : UInt8} (n : Nat) (hn : a + 1 ≤ n) (h : ([p] : List UInt8).isPrefixOf (l.drop a) = true) : ([p] : List UInt8).isPrefixOf ((l.take n).drop a) = true := by
  rw [List.drop_take]
  cases e : l.drop a with
  | nil => rw [e] at h; simp [List.isPrefixOf] at h
  | cons c r =>
    rw [e] at h
    obtain ⟨m, hm⟩ : ∃ m, n - a = m + 1 := ⟨n - a - 1, by omega⟩
    rw [hm, List.take_succ_cons]
    simp [List.isPrefixOf] at h ⊢
    exact h
/-- Parse of the first ten characters. -/
theorem calP_ten {l : List UInt8} (h : okN marks6 l = true) : (DateOf l → calP (l.take 10) = (dnum (numL (l.take 4)) (numL ((l.drop 5).take 2)) (numL ((l.drop 8).take 2)), 0)) ∧ (¬ DateOf l → calP (l.take 10) = (0, 17)) := by
  obtain ⟨⟨a, b, c, d, e⟩, -⟩ := (ok6 l).1 h
  have hf : formB (l.take 10) pat3 = true := by
    rw [form3]
    refine ⟨⟨?_, take_pre 10 (by omega) b, take_num 10 (by omega) c, take_pre 10 (by omega) d, take_num 10 (by omega) e⟩, by rw [List.drop_eq_nil_iff, List.length_take]; omega⟩
    have := take_num (a := 0) 10 (k := 4) (by omega) (l := l) (by simpa using a)
    simpa using this
  have e0 : (l.take 10).take 4 = l.take 4 := by rw [List.take_take]; rfl
  have e1 : ((l.take 10).drop 5).take 2 = (l.drop 5).take 2 := take_cut l 10 5 2 (by omega)
  have e2 : ((l.take 10).drop 8).take 2 = (l.drop 8).take 2 := take_cut l 10 8 2 (by omega)
  unfold calP
  rw [if_pos hf, e0, e1, e2]
  exact ⟨fun x => by rw [if_pos ((dateOf_iff l).1 x)], fun x => by rw [if_neg (fun y => x ((dateOf_iff l).2 y))]⟩

end Go.Proofs.YthkkjfofpoifiaaDoor
