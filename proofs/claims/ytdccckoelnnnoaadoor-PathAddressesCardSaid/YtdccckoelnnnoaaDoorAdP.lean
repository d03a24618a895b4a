/- Path, plain: a path with one All, and the paths with indexes in its place. -/
import Derived.Test.YtdccckoelnnnoaaDoorFiG
namespace Go.Proofs.YtdccckoelnnnoaaDoor
open Go.RowKit

theorem leadsL_app (p : Pt) (A B : List VT) : leadsL p (A ++ B) = leadsL p A ++ leadsL p B := by simp [leadsL]
theorem findT_app : ∀ (l : List Pt) (A B : List VT), findT (A ++ B) l = (findT A l).bind fun a => (findT B l).map fun b => a ++ b
  | [], A, B => rfl
  | p :: l, A, B => by
    simp only [findT, List.all_append, leadsL_app, findT_app l, Bool.and_eq_true]
    by_cases h1 : A.all (appT p) = true
    · by_cases h2 : B.all (appT p) = true
      · rw [if_pos ⟨h1, h2⟩, if_pos h1, if_pos h2]
      · rw [if_neg (fun h => h2 h.2), if_pos h1, if_neg h2]
        cases findT (leadsL p A) l <;> rfl
    · rw [if_neg (fun h => h1 h.1), if_neg h1]
      rfl
theorem findT_nil : ∀ l : List Pt, findT [] l = some []
  | [] => rfl
  | p :: l => by simp only [findT, List.all_nil, if_true]; exact findT_nil l
theorem findT_path : ∀ (l m : List Pt) (A : List VT), findT A (l ++ m) = (findT A l).bind fun a => findT a m
  | [], m, A => rfl
  | p :: l, m, A => by
    simp only [List.cons_append, findT]
    split
    · exact findT_path l m _
    · rfl
theorem findT_step {Ts R Ri : List VT} {l : List Pt} {i : Nat} {X : VT} (h : findT Ts l = some R) (hi : findT (Ts.take i) l = some Ri) (hx : Ts[i]? = some X) : ∃ Y, findT [X] l = some Y ∧ findT (Ts.take (i + 1)) l = some (Ri ++ Y) ∧ ∃ Z, R = (Ri ++ Y) ++ Z := by
  have e : Ts = Ts.take (i + 1) ++ Ts.drop (i + 1) := (List.take_append_drop _ _).symm
  rw [e, take_next hx, findT_app, findT_app, hi] at h
  rw [take_next hx, findT_app, hi]
  cases hX : findT [X] l with
  | none => rw [hX] at h; cases h
  | some Y =>
    rw [hX] at h
    simp only [Option.bind_some, Option.map_some] at h ⊢
    cases hD : findT (Ts.drop (i + 1)) l with
    | none => rw [hD] at h; cases h
    | some Z =>
      rw [hD] at h
      simp only [Option.map_some, Option.some.injEq] at h
      exact ⟨Y, rfl, rfl, Z, h.symm⟩
theorem findT_one : ∀ {l : List Pt} {A R : List VT}, everyL l = false → A.length ≤ 1 → findT A l = some R → R.length ≤ 1
  | [], A, R, _, ha, h => by cases h; exact ha
  | p :: l, A, R, he, ha, h => by
    have he' : (p.kind == 3) = false ∧ everyL l = false := by simpa [everyL] using he
    simp only [findT] at h
    split at h
    · rename_i hall
      refine findT_one he'.2 ?_ h
      match A, ha with
      | [], _ => simp [leadsL]
      | [X], _ =>
        have : appT p X = true := by simpa using hall
        have := leadL_one this he'.1
        simpa [leadsL] using this
    · cases h
/-- What Find answers at a path without All. -/
theorem findE_of {T : VT} {l : List Pt} {R : List VT} (hok : okL l = true) (h : findT [T] l = some R) : findE T l = (if R = [] ∧ everyL l = false then 19 else 0) ∧ findR T l = R := by
  unfold findE findR
  rw [chkE_ok hok, if_pos rfl, if_pos rfl, h]
  exact ⟨rfl, rfl⟩
theorem getV_one {T : VT} {l : List Pt} {U : VT} (hok : okL l = true) (he : everyL l = false) (h : findT [T] l = some [U]) : findE T l = 0 ∧ getV T l = U := by
  obtain ⟨h1, h2⟩ := findE_of hok h
  have h0 : findE T l = 0 := by rw [h1, if_neg (by simp)]
  refine ⟨h0, ?_⟩
  unfold getV
  rw [if_pos h0, he, h2]
  rfl
theorem getV_none {T : VT} {l : List Pt} (hok : okL l = true) (he : everyL l = false) (h : findT [T] l = some []) : findE T l = 19 := by
  rw [(findE_of hok h).1, if_pos ⟨rfl, he⟩]

/-- The parts up to one behind the first. -/
theorem okL_take {l : List Pt} {k : Nat} (h : okL l = true) (hk : 0 < k) : okL (l.take k) = true := by
  obtain ⟨h1, h2, h3, h4, h5⟩ := okL_parts h
  unfold okL
  simp only [Bool.and_eq_true, decide_eq_true_eq, beq_iff_eq, List.length_take]
  refine ⟨⟨⟨⟨by omega, by omega⟩, ?_⟩, ?_⟩, ?_⟩
  · cases l with
    | nil => simp at h1
    | cons p l =>
      obtain ⟨k, rfl⟩ : ∃ j, k = j + 1 := ⟨k - 1, by omega⟩
      simpa using h5
  · rw [List.all_eq_true] at h3 ⊢
    exact fun x hx => h3 x (List.mem_of_mem_take hx)
  · have e : txL l = txL (l.take k) ++ txL (l.drop k) := by
      unfold txL
      rw [← List.flatMap_append, List.take_append_drop]
    rw [e, List.length_append] at h4
    omega
theorem everyL_app (l m : List Pt) : everyL (l ++ m) = (everyL l || everyL m) := by simp [everyL]
theorem everyL_take {l : List Pt} {k : Nat} (h : NoAll l k) : everyL (l.take k) = false := by
  unfold everyL
  rw [Bool.eq_false_iff]
  intro hx
  rw [List.any_eq_true] at hx
  obtain ⟨p, hp, h3⟩ := hx
  obtain ⟨i, hi, e⟩ := List.mem_iff_getElem.1 hp
  rw [List.length_take] at hi
  have := h i p (by omega) (by rw [List.getElem?_eq_getElem (show i < l.length by omega), ← e, List.getElem_take])
  rw [this] at h3
  cases h3
/-- One All, at k: none ahead of it, none behind it. -/
def OneAll (l : List Pt) (k : Nat) : Prop := NoAll l k ∧ (∃ p, l[k]? = some p ∧ p.kind = 3) ∧ ∀ i p, k < i → l[i]? = some p → (p.kind == 3) = false
theorem OneAll.parts {l : List Pt} {k : Nat} (h : OneAll l k) : ∃ p, l = l.take k ++ p :: l.drop (k + 1) ∧ p.kind = 3 ∧ everyL (l.take k) = false ∧ everyL (l.drop (k + 1)) = false ∧ k < l.length := by
  obtain ⟨h1, ⟨p, hp, hp3⟩, h3⟩ := h
  have hk : k < l.length := (List.getElem?_eq_some_iff.1 hp).1
  have e : l[k] = p := (List.getElem?_eq_some_iff.1 hp).2
  refine ⟨p, ?_, hp3, everyL_take h1, ?_, hk⟩
  · rw [← e, ← List.drop_eq_getElem_cons hk, List.take_append_drop]
  · unfold everyL
    rw [Bool.eq_false_iff]
    intro hx
    rw [List.any_eq_true] at hx
    obtain ⟨q, hq, hq3⟩ := hx
    obtain ⟨i, hi, e'⟩ := List.mem_iff_getElem.1 hq
    rw [List.length_drop] at hi
    have := h3 (k + 1 + i) q (by omega) (by rw [List.getElem?_eq_getElem (show k + 1 + i < l.length by omega), ← e', List.getElem_drop])
    rw [this] at hq3
    cases hq3
theorem OneAll.pos {l : List Pt} {k : Nat} (h : OneAll l k) (hok : okL l = true) : 0 < k := by
  rcases Nat.eq_zero_or_pos k with e | e
  · subst e
    obtain ⟨_, ⟨p, hp, hp3⟩, _⟩ := h
    obtain ⟨_, _, _, _, h5⟩ := okL_parts hok
    cases l with
    | nil => simp at hp
    | cons q l =>
      simp at hp h5
      rw [hp, hp3] at h5
      omega
  · exact e
/-- The list ahead of the All: there is none, or one that is a list. -/
theorem adr_list {T : VT} {l : List Pt} {k : Nat} (h : OneAll l k) (h0 : findE T l = 0) : okL l = true ∧ okL (l.take k) = true ∧ ((findE T (l.take k) = 19 ∧ findR T l = []) ∨
    (findE T (l.take k) = 0 ∧ findT (getV T (l.take k)).l (l.drop (k + 1)) = some (findR T l) ∧ findT [T] (l.take k) = some [getV T (l.take k)] ∧ (getV T (l.take k)).k = 8)) := by
  obtain ⟨p, e, hp3, he1, he2, hk⟩ := h.parts
  have hok : okL l = true := by
    by_cases hok : okL l = true
    · exact hok
    · unfold findE at h0; rw [chkE_no hok] at h0; simp at h0
  have hokt := okL_take hok (h.pos hok)
  refine ⟨hok, hokt, ?_⟩
  have hf : ∃ R, findT [T] l = some R := by
    unfold findE at h0
    rw [chkE_ok hok, if_pos rfl] at h0
    cases hf : findT [T] l with
    | none => rw [hf] at h0; simp at h0
    | some R => exact ⟨R, rfl⟩
  obtain ⟨R, hf⟩ := hf
  have hR := (findE_of hok hf).2
  rw [hR]
  rw [e, findT_path] at hf
  cases hU : findT [T] (l.take k) with
  | none => rw [hU] at hf; cases hf
  | some Us =>
    rw [hU] at hf
    simp only [Option.bind_some, findT] at hf
    have hl := findT_one he1 (by simp) hU
    match Us, hl with
    | [], _ =>
      refine .inl ⟨getV_none hokt he1 hU, ?_⟩
      simp only [List.all_nil, if_true] at hf
      rw [show leadsL p [] = [] from rfl, findT_nil] at hf
      exact (Option.some.inj hf).symm
    | [U], _ =>
      obtain ⟨g1, g2⟩ := getV_one hokt he1 hU
      refine .inr ⟨g1, ?_, by rw [g2], ?_⟩
      · rw [g2]
        split at hf
        · rw [← hf]
          congr 1
          have : leadL p U = U.l := by unfold leadL; rw [if_neg (by omega), if_pos hp3]
          simp [leadsL, this]
        · cases hf
      · rw [g2]
        split at hf
        · rename_i ha
          have ha' : appT p U = true := by simpa using ha
          unfold appT at ha'
          rw [if_neg (by omega), if_neg (by omega)] at ha'
          simpa using ha'
        · cases hf
/-- The path with an index in place of the All. -/
def idxL (l : List Pt) (k i : Nat) : List Pt := l.set k ⟨2, (i : Int), ⟨#[]⟩⟩
theorem idx_parts {l : List Pt} {k : Nat} (h : OneAll l k) (i : Nat) : idxL l k i = l.take k ++ ⟨2, (i : Int), ⟨#[]⟩⟩ :: l.drop (k + 1) ∧ everyL (idxL l k i) = false := by
  obtain ⟨p, e, hp3, he1, he2, hk⟩ := h.parts
  have e1 : idxL l k i = l.take k ++ ⟨2, (i : Int), ⟨#[]⟩⟩ :: l.drop (k + 1) := by
    unfold idxL
    rw [List.set_eq_take_append_cons_drop, if_pos hk]
  refine ⟨e1, ?_⟩
  rw [e1, everyL_app, he1]
  have : everyL (⟨2, (i : Int), ⟨#[]⟩⟩ :: l.drop (k + 1)) = everyL (l.drop (k + 1)) := by simp [everyL]
  rw [this, he2]
  rfl
theorem adr_idx {T U X : VT} {l : List Pt} {k i : Nat} {Y : List VT} (h : OneAll l k) (hU : findT [T] (l.take k) = some [U]) (hk8 : U.k = 8) (hX : U.l[i]? = some X) (hY : findT [X] (l.drop (k + 1)) = some Y) (hok : okL (idxL l k i) = true) :
    (Y = [] ∧ findE T (idxL l k i) = 19) ∨ ∃ y, Y = [y] ∧ findE T (idxL l k i) = 0 ∧ getV T (idxL l k i) = y := by
  obtain ⟨e1, e2⟩ := idx_parts h i
  obtain ⟨p, e, hp3, he1, he2, hk⟩ := h.parts
  have hf : findT [T] (idxL l k i) = some Y := by
    rw [e1, findT_path, hU]
    simp only [Option.bind_some, findT]
    have ha : appT ⟨2, (i : Int), ⟨#[]⟩⟩ U = true := by unfold appT; simp [hk8]
    have hi : i < U.l.length := (List.getElem?_eq_some_iff.1 hX).1
    have hl : leadL ⟨2, (i : Int), ⟨#[]⟩⟩ U = [X] := by
      unfold leadL
      simp only [Int.toNat_natCast]
      rw [if_neg (by omega), if_neg (by omega), if_neg (by omega), if_pos trivial, if_pos (by omega), hX]
      rfl
    rw [if_pos (by simp [ha])]
    have : leadsL ⟨2, (i : Int), ⟨#[]⟩⟩ [U] = [X] := by simp [leadsL, hl]
    rw [this, hY]
  have hl := findT_one he2 (by simp) hY
  match Y, hl with
  | [], _ => exact .inl ⟨rfl, getV_none hok e2 hf⟩
  | [y], _ =>
    obtain ⟨g1, g2⟩ := getV_one hok e2 hf
    exact .inr ⟨y, rfl, g1, g2⟩
end Go.Proofs.YtdccckoelnnnoaaDoor
