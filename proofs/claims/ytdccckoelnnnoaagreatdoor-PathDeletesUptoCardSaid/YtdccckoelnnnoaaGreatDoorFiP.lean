/- Path, plain: what Find and Get answer. -/
import Derived.Test.YtdccckoelnnnoaaGreatDoorVaA
import Derived.Test.YtdccckoelnnnoaaGreatDoorPaX
namespace Go.Proofs.YtdccckoelnnnoaaGreatDoor
open Go.RowKit

def appT (p : Pt) (T : VT) : Bool := if p.kind = 1 then T.k == 9 else if p.kind = 4 then (T.k == 10) && ((T.l.length : Int) == 1) else T.k == 8
theorem app_eq {w : World} {S : Nat → Prop} {n : Nat} {v : VC} {T : VT} (h : VAt w S n v T) (p : Pt) : appB p v = appT p T := by
  cases n with
  | zero => exact h.elim
  | succ n =>
    obtain ⟨⟨hk, _⟩, ⟨V, hV, hA⟩, _⟩ := h
    have hl : (v.ln : Int) = (T.l.length : Int) := by rw [← hV.len, hA.1]
    unfold appB appT
    rw [hk, hl]
def leadsL (p : Pt) (Ts : List VT) : List VT := Ts.flatMap (leadL p)
def findT : List VT → List Pt → Option (List VT)
  | Ts, [] => some Ts
  | Ts, p :: l => if Ts.all (appT p) = true then findT (leadsL p Ts) l else none
/-- The error of Find, and its values. -/
def findE (T : VT) (l : List Pt) : Int :=
  if chkE l = 0 then (match findT [T] l with
    | none => 22
    | some Ts => if Ts = [] ∧ everyL l = false then 19 else 0) else chkE l
def findR (T : VT) (l : List Pt) : List VT :=
  if chkE l = 0 then (match findT [T] l with
    | none => []
    | some Ts => Ts) else []
def AppTo (p : Pt) (Ts : List VT) (q : Nat) : Prop := ∀ i x, i < q → Ts[i]? = some x → appT p x = true
theorem AppTo.next {p : Pt} {Ts : List VT} {q : Nat} {x : VT} (h : AppTo p Ts q) (h1 : Ts[q]? = some x) (h2 : appT p x = true) : AppTo p Ts (q + 1) := by
  intro i y hi hy
  by_cases e : i = q
  · subst e
    rw [h1] at hy
    injection hy with hy
    rw [← hy]; exact h2
  · exact h i y (by omega) hy
theorem AppTo.all {p : Pt} {Ts : List VT} (h : AppTo p Ts Ts.length) : Ts.all (appT p) = true := by
  rw [List.all_eq_true]
  intro x hx
  obtain ⟨i, hi, e⟩ := List.mem_iff_getElem.1 hx
  exact h i x hi (by rw [List.getElem?_eq_getElem hi, e])
theorem app_not {p : Pt} {Ts : List VT} {q : Nat} {x : VT} (h1 : Ts[q]? = some x) (h2 : appT p x = false) : ¬ Ts.all (appT p) = true := by
  intro h
  have := List.all_eq_true.1 h x (List.mem_of_getElem? h1)
  rw [h2] at this; cases this
theorem leadsL_take {p : Pt} {Ts : List VT} {q : Nat} {x : VT} (h : Ts[q]? = some x) : leadsL p (Ts.take (q + 1)) = leadsL p (Ts.take q) ++ leadL p x := by
  rw [take_next h]; simp [leadsL]
theorem sizeL_sub : ∀ {l : List VT} {j : Nat}, sizeL ((l[j]?).toList) ≤ sizeL l
  | [], j => by simp [sizeL]
  | x :: l, 0 => by simp [sizeL]
  | x :: l, j + 1 => by
    have := sizeL_sub (l := l) (j := j)
    simp only [List.getElem?_cons_succ, sizeL]
    omega
theorem lead_size (p : Pt) (T : VT) : sizeL (leadL p T) ≤ T.size := by
  have hl : sizeL T.l ≤ T.size := by cases T; simp only [VT.size, VT.l]; omega
  have hf : sizeF T.f ≤ T.size := by cases T; simp only [VT.size, VT.f]; omega
  unfold leadL
  split
  · split
    · rename_i j _
      cases hx : T.f[j]? with
      | none => simp [sizeL]
      | some x =>
        have := sizeF_mem hx
        simp [sizeL]
        omega
    · simp [sizeL]
  split
  · exact hl
  split
  · split
    · exact hl
    · simp [sizeL]
  split
  · split
    · exact Nat.le_trans sizeL_sub hl
    · simp [sizeL]
  · simp [sizeL]
theorem leads_size (p : Pt) : ∀ Ts : List VT, sizeL (leadsL p Ts) ≤ sizeL Ts
  | [] => Nat.le_refl _
  | x :: Ts => by
    have h1 := lead_size p x
    have h2 := leads_size p Ts
    have : leadsL p (x :: Ts) = leadL p x ++ leadsL p Ts := by simp [leadsL]
    rw [this, sizeL_app]
    simp only [sizeL]
    omega
theorem find_step {T : VT} {l : List Pt} {k : Nat} {p : Pt} {Ts : List VT} (h : findT [T] l = findT Ts (l.drop k)) (hp : l[k]? = some p) (ha : Ts.all (appT p) = true) : findT [T] l = findT (leadsL p Ts) (l.drop (k + 1)) := by
  have hk : k < l.length := (List.getElem?_eq_some_iff.1 hp).1
  have e : l.drop k = p :: l.drop (k + 1) := by
    rw [List.drop_eq_getElem_cons hk]
    rw [List.getElem?_eq_getElem hk] at hp
    rw [Option.some.inj hp]
  rw [h, e, findT, if_pos ha]
theorem find_fail {T : VT} {l : List Pt} {k : Nat} {p : Pt} {Ts : List VT} (h : findT [T] l = findT Ts (l.drop k)) (hp : l[k]? = some p) (ha : ¬ Ts.all (appT p) = true) : findT [T] l = none := by
  have hk : k < l.length := (List.getElem?_eq_some_iff.1 hp).1
  have e : l.drop k = p :: l.drop (k + 1) := by
    rw [List.drop_eq_getElem_cons hk]
    rw [List.getElem?_eq_getElem hk] at hp
    rw [Option.some.inj hp]
  rw [h, e, findT, if_neg ha]
theorem find_done {T : VT} {l : List Pt} {Ts : List VT} (h : findT [T] l = findT Ts (l.drop l.length)) : findT [T] l = some Ts := by
  rw [h, List.drop_length]; rfl
end Go.Proofs.YtdccckoelnnnoaaGreatDoor
