/- Path, plain: what Find and Get answer. -/
import Derived.Test.YtdccckoelnnnoaaDoorVaA
import Derived.Test.YtdccckoelnnnoaaDoorPaX
namespace Go.Proofs.YtdccckoelnnnoaaDoor
open Go.RowKit

def appT (p : Pt) (T : VT) : Bool := if p.kind = 1 then T.k == 9 else if p.kind = 4 then (T.k == 10) && ((T.l.length : Int) == 1) else T.k == 8
theorem app_eq {w : World} {S : Nat → Prop} {n : Nat} {v : VC} {T : VT} (h : VAt w S n v T) (p : Pt) : appB p v = appT p T := by
  cases n with
  | zero => exact h.elim
  | succ n =>
    obtain ⟨⟨hk, _⟩, ⟨V, hV, hA⟩, _⟩ := h
    have hl : (v.ln : Int) = (T.l.length : Int) := by rw [← hV.len, hA.1]
    unfold appB appT
    rw [hk, hl]
def leadsL (p : Pt) (Ts : List VT) : List VT := Ts.flatMap (leadL p)
def findT : List VT → List Pt → Option (List VT)
  | Ts, [] => some Ts
  | Ts, p :: l => if Ts.all (appT p) = true then findT (leadsL p Ts) l else none
/-- The error of Find, and its values. -/
def findE (T : VT) (l : List Pt) : Int :=
  if chkE l = 0 then (match findT [T] l with
    | none => 22
    | some Ts => if Ts = [] ∧ everyL l = false then 19 else 0) else chkE l
def findR (T : VT) (l : List Pt) : List VT :=
  if chkE l = 0 then (match findT [T] l with
    | none => []
    | some Ts => Ts) else []
def AppTo (p : Pt) (Ts : List VT) (q : Nat) : Prop := ∀ i x, i < q → Ts[i]? = some x → appT p x = true
theorem AppTo.next {p : Pt} {Ts : List VT} {q : Nat} {x : VT} (h : AppTo p Ts q) (h1 : Ts[q]? = some x) (h2 : appT p x = true) : AppTo p Ts (q + 1) := by
  intro i y hi hy
  by_cases e : i = q
  · subst e
    rw [h1] at hy
    injection hy with hy
    rw [← hy]; exact h2
  · exact h i y (by omega) hy
theorem AppTo.all {p : Pt} {Ts : List VT} (h : AppTo p Ts Ts.length) : Ts.all (appT p) = true := by
  rw [List.all_eq_true]
  intro x hx
  obtain ⟨i, hi, e⟩ := List.mem_iff_getElem.1 hx
  exact h i x hi (by rw [List.getElem?_eq_getElem hi, e])
theorem app_not {p : Pt} {Ts : List VT} {q : Nat} {x : VT} (h1 : Ts[q]? = some x) (h2 : appT p x = false) : ¬ Ts.all (appT p) = true := by
  intro h
  have := List.all_eq_true.1 h x (List.mem_of_getElem? h1)
  rw [h2] at this; cases this
theorem leadsL_take {p : Pt} {Ts : List VT} {q : Nat} {x : VT} (h : Ts[q]? = some x) : leadsL p (Ts.take (q + 1)) = leadsL p (Ts.take q) ++ leadL p x := by
  rw [take_next h]; simp [leadsL]
theorem sizeL_sub {l : List VT} {j : Nat} : sizeL ((l[j]?).toList) ≤ sizeL l := by
  cases h : l[j]? with
  | none => simp [sizeL]
  | some x =>
    have h1 := sizeL_mem h
    have h2 := sizeL_len l
    have h3 : 0 < l.length := by have := (List.getElem?_eq_some_iff.1 h).1; omega
    simp only [Option.toList_some, sizeL, List.length_nil]
    omega
theorem lead_size (p : Pt) (T : VT) : sizeL (leadL p T) ≤ T.size := by
  have hl : sizeL T.l ≤ T.size := by cases T; simp only [VT.size, VT.l]; omega
  have hf : sizeF T.f ≤ T.size := by cases T; simp only [VT.size, VT.f]; omega
  unfold leadL
  split
  · split
    · rename_i j _
      cases hx : T.f[j]? with
      | none => simp [sizeL]
      | some x =>
        have h1 := sizeF_mem hx
        have h2 := sizeF_len T.f
        have h3 : 0 < T.f.length := by have := (List.getElem?_eq_some_iff.1 hx).1; omega
        simp only [Option.map_some, Option.toList_some, sizeL, List.length_nil]
        omega
    · simp [sizeL]
  split
  · exact hl
  split
  · split
    · exact hl
    · simp [sizeL]
  split
  · split
    · exact Nat.le_trans sizeL_sub hl
    · simp [sizeL]
  · simp [sizeL]
/-- What a list of parts leads to, one part after another, applied or not. -/
def dT (T : VT) (L : List Pt) (k : Nat) : List VT := (L.take k).foldl (fun Ts p => leadsL p Ts) [T]
theorem dT_zero (T : VT) (L : List Pt) : dT T L 0 = [T] := rfl
theorem dT_succ {T : VT} {L : List Pt} {k : Nat} {p : Pt} (h : L[k]? = some p) : dT T L (k + 1) = leadsL p (dT T L k) := by
  unfold dT
  rw [List.take_add_one, h]
  simp
theorem sizeL_pre : ∀ {l m : List VT}, sizeL l ≤ sizeL (l ++ m)
  | [], m => by simp [sizeL]
  | x :: l, m => by
    have := sizeL_pre (l := l) (m := m)
    simp only [List.cons_append, sizeL, List.length_append]
    omega
theorem leads_pre {p : Pt} {Ts : List VT} {q : Nat} : sizeL (leadsL p (Ts.take q)) ≤ sizeL (leadsL p Ts) := by
  have h : leadsL p Ts = leadsL p (Ts.take q) ++ leadsL p (Ts.drop q) := by
    unfold leadsL
    rw [← List.flatMap_append, List.take_append_drop]
  rw [h]
  exact sizeL_pre
/-- Ts is what the first k parts lead to, and each of them applied. -/
def Way (T : VT) (L : List Pt) (k : Nat) (Ts : List VT) : Prop := Ts = dT T L k ∧ ∀ j p, j < k → L[j]? = some p → (dT T L j).all (appT p) = true
theorem way_zero (T : VT) (L : List Pt) : Way T L 0 [T] := ⟨rfl, fun j p h => absurd h (by omega)⟩
theorem Way.next {T : VT} {L : List Pt} {k : Nat} {p : Pt} {Ts : List VT} (h : Way T L k Ts) (hp : L[k]? = some p) (ha : Ts.all (appT p) = true) : Way T L (k + 1) (leadsL p Ts) := by
  refine ⟨by rw [dT_succ hp, h.1], fun j q hj hq => ?_⟩
  by_cases e : j = k
  · subst e
    rw [hp] at hq
    injection hq with hq
    subst hq
    rw [← h.1]
    exact ha
  · exact h.2 j q (by omega) hq
/-- No list on the way is longer than a slice can be. -/
structure Fit (T : VT) (L : List Pt) : Prop where
  size : T.size ≤ 140737488351232
  way : ∀ k p q Ts, Way T L k Ts → L[k]? = some p → AppTo p Ts q → sizeL (leadsL p (Ts.take q)) ≤ 140737488351232
theorem Fit.start {T : VT} {L : List Pt} (h : Fit T L) : sizeL [T] ≤ 140737488351232 := by
  have := h.size
  simp only [sizeL, List.length_nil]
  omega
theorem fit_full {T : VT} {L : List Pt} (h : T.size ≤ 140737488351232) (hf : ∀ k p, L[k]? = some p → sizeL (leadsL p (dT T L k)) ≤ 140737488351232) : Fit T L :=
  ⟨h, fun k p q Ts hw hp _ => by
    have h1 := hf k p hp
    rw [← hw.1] at h1
    exact Nat.le_trans leads_pre h1⟩
theorem leadL_one {p : Pt} {T : VT} (ha : appT p T = true) (h3 : (p.kind == 3) = false) : (leadL p T).length ≤ 1 := by
  have h3' : ¬ p.kind = 3 := by simpa using h3
  unfold leadL
  split
  · split
    · rename_i j _
      cases T.f[j]? <;> simp
    · simp
  split
  · rename_i h4
    unfold appT at ha
    rw [if_neg (by omega), if_pos h4] at ha
    have : (T.l.length : Int) = 1 := by
      have := (Bool.and_eq_true _ _ ▸ ha : _ ∧ _).2
      simpa using this
    split
    · omega
    · simp
  split
  · split
    · cases T.l[p.idx.toNat]? <;> simp
    · simp
  · simp
theorem every_get : ∀ {L : List Pt} {k : Nat} {p : Pt}, everyL L = false → L[k]? = some p → (p.kind == 3) = false := by
  intro L k p he hp
  unfold everyL at he
  rw [List.any_eq_false] at he
  simpa using he p (List.mem_of_getElem? hp)
/-- A path without All leads to one value at most. -/
theorem way_one {T : VT} {L : List Pt} (he : everyL L = false) (h : T.size ≤ 140737488351232) : ∀ {k : Nat} {Ts : List VT}, k ≤ L.length → Way T L k Ts → Ts.length ≤ 1 ∧ sizeL Ts ≤ 140737488351232
  | 0, Ts, _, hw => by
    rw [hw.1, dT_zero]
    simp only [sizeL, List.length_cons, List.length_nil]
    omega
  | k + 1, Ts, hk, hw => by
    obtain ⟨p, hp⟩ : ∃ p, L[k]? = some p := ⟨_, List.getElem?_eq_getElem (by omega)⟩
    have hwk : Way T L k (dT T L k) := ⟨rfl, fun j q hj hq => hw.2 j q (by omega) hq⟩
    obtain ⟨i1, i2⟩ := way_one he h (by omega) hwk
    have hall := hw.2 k p (by omega) hp
    rw [hw.1, dT_succ hp]
    match hd : dT T L k, i1 with
    | [], _ => simp [leadsL, sizeL]
    | [X], _ =>
      rw [hd] at hall i2
      have ha : appT p X = true := by simpa using hall
      have h1 := leadL_one ha (every_get he hp)
      have h2 := lead_size p X
      have h3 : leadsL p [X] = leadL p X := by simp [leadsL]
      rw [h3]
      simp only [sizeL] at i2
      exact ⟨h1, by omega⟩
theorem fit_one {T : VT} {L : List Pt} (he : everyL L = false) (h : T.size ≤ 140737488351232) : Fit T L := by
  refine ⟨h, fun k p q Ts hw hp ha => ?_⟩
  have hk : k < L.length := (List.getElem?_eq_some_iff.1 hp).1
  obtain ⟨i1, i2⟩ := way_one he h (by omega) hw
  match Ts, i1 with
  | [], _ => simp [leadsL, sizeL]
  | [X], _ =>
    cases q with
    | zero => simp [leadsL, sizeL]
    | succ q =>
      have h2 := lead_size p X
      have h3 : leadsL p ([X].take (q + 1)) = leadL p X := by simp [leadsL]
      rw [h3]
      simp only [sizeL] at i2
      omega
theorem find_step {T : VT} {l : List Pt} {k : Nat} {p : Pt} {Ts : List VT} (h : findT [T] l = findT Ts (l.drop k)) (hp : l[k]? = some p) (ha : Ts.all (appT p) = true) : findT [T] l = findT (leadsL p Ts) (l.drop (k + 1)) := by
  have hk : k < l.length := (List.getElem?_eq_some_iff.1 hp).1
  have e : l.drop k = p :: l.drop (k + 1) := by
    rw [List.drop_eq_getElem_cons hk]
    rw [List.getElem?_eq_getElem hk] at hp
    rw [Option.some.inj hp]
  rw [h, e, findT, if_pos ha]
theorem find_fail {T : VT} {l : List Pt} {k : Nat} {p : Pt} {Ts : List VT} (h : findT [T] l = findT Ts (l.drop k)) (hp : l[k]? = some p) (ha : ¬ Ts.all (appT p) = true) : findT [T] l = none := by
  have hk : k < l.length := (List.getElem?_eq_some_iff.1 hp).1
  have e : l.drop k = p :: l.drop (k + 1) := by
    rw [List.drop_eq_getElem_cons hk]
    rw [List.getElem?_eq_getElem hk] at hp
    rw [Option.some.inj hp]
  rw [h, e, findT, if_neg ha]
theorem find_done {T : VT} {l : List Pt} {Ts : List VT} (h : findT [T] l = findT Ts (l.drop l.length)) : findT [T] l = some Ts := by
  rw [h, List.drop_length]; rfl
end Go.Proofs.YtdccckoelnnnoaaDoor
