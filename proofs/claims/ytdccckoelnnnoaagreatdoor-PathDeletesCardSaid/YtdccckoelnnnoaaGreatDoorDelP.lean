/- Path, plain: what Delete answers. -/
import Derived.Test.YtdccckoelnnnoaaGreatDoorSetP
namespace Go.Proofs.YtdccckoelnnnoaaGreatDoor
open Go.RowKit

/-- A tree without the field or the element to which a part leads. -/
def delT (T : VT) (p : Pt) : VT :=
  if p.kind = 2 then .mk T.k T.i T.s T.t (T.l.take p.idx.toNat ++ T.l.drop (p.idx.toNat + 1)) T.f
  else .mk T.k T.i T.s T.t T.l (T.f.take ((fieldL T.f p.name).getD 0) ++ T.f.drop ((fieldL T.f p.name).getD 0 + 1))
def dlE : List Pt → VT → Int
  | [], _ => 0
  | p :: l, T => if appT p T = true then (match leadL p T with
    | [] => 19
    | U :: _ => if l = [] then 0 else dlE l U) else 22
def dlT : List Pt → VT → VT
  | [], T => T
  | p :: l, T => match leadL p T with
    | [] => T
    | U :: _ => if l = [] then delT T p else replT T p (dlT l U)
theorem dlE_range : ∀ (L : List Pt) (T : VT), dlE L T = 0 ∨ dlE L T = 19 ∨ dlE L T = 22
  | [], _ => .inl rfl
  | p :: l, T => by
    unfold dlE
    split
    · split
      · exact .inr (.inl rfl)
      · split
        · exact .inl rfl
        · exact dlE_range l _
    · exact .inr (.inr rfl)
/-- Delete's error is Find's. -/
theorem dlE_find : ∀ {L : List Pt} {T : VT}, L ≠ [] → L.all validB = true → everyL L = false → dlE L T = (match findT [T] L with | none => 22 | some R => if R = [] then 19 else 0)
  | [], T, h, _, _ => absurd rfl h
  | p :: l, T, _, hv, he => by
    have hv' : validB p = true ∧ l.all validB = true := by simpa using hv
    have he' : (p.kind == 3) = false ∧ everyL l = false := by simpa [everyL] using he
    unfold dlE
    simp only [findT]
    cases ha : appT p T with
    | false =>
      rw [if_neg (by simp), if_neg (by simp [ha])]
    | true =>
      rw [if_pos rfl, if_pos (by simp [ha])]
      have hls : leadsL p [T] = leadL p T := by simp [leadsL]
      rw [hls]
      cases hL : leadL p T with
      | nil => rw [findT_nil]; rfl
      | cons U rest =>
        obtain ⟨rfl, _⟩ := lead_parts hv'.1 he'.1 ha hL
        simp only []
        by_cases hl : l = []
        · subst hl
          rw [if_pos rfl]
          rfl
        · rw [if_neg hl]
          exact dlE_find hl hv'.2 he'.2
theorem dlE_eq {L : List Pt} {T : VT} (hok : okL L = true) (he : everyL L = false) : dlE L T = findE T L := by
  obtain ⟨h1, _, hall, _, _⟩ := okL_parts hok
  have hne : L ≠ [] := by intro e; rw [e] at h1; simp at h1
  rw [dlE_find hne hall he]
  unfold findE
  rw [chkE_ok hok, if_pos rfl]
  cases findT [T] L with
  | none => rfl
  | some R =>
    simp only []
    by_cases hR : R = []
    · rw [if_pos hR, if_pos ⟨hR, he⟩]
    · rw [if_neg hR, if_neg (fun h => hR h.1)]
theorem del_ins {T B : VT} {p : Pt} {i : Nat} (h1 : p.kind = 1) (h0 : leadL p T = []) (hi : i ≤ T.f.length) : delT (insT T i p.name B) p = T := by
  have hn : fieldL T.f p.name = none := by
    unfold leadL at h0
    rw [if_pos h1] at h0
    cases hf : fieldL T.f p.name with
    | none => rfl
    | some j =>
      rw [hf] at h0
      obtain ⟨⟨x, hx⟩, _⟩ := fieldL_some hf
      simp only [hx] at h0
      simp at h0
  have hx : (T.f.take i ++ (p.name, B) :: T.f.drop i)[i]? = some (p.name, B) := by
    rw [List.getElem?_append_right (by simp; omega), List.length_take, Nat.min_eq_left hi, Nat.sub_self]
    rfl
  have hf : fieldL (T.f.take i ++ (p.name, B) :: T.f.drop i) p.name = some i := by
    refine fieldL_hit (x := (p.name, B)) (fun j z hj hz => ?_) hx rfl
    rw [List.getElem?_append_left (by rw [List.length_take]; omega), List.getElem?_take_of_lt hj] at hz
    exact fieldL_no hn j z hz
  unfold delT
  rw [if_neg (by omega)]
  apply VT.ext <;> try rfl
  show (insT T i p.name B).f.take ((fieldL (insT T i p.name B).f p.name).getD 0) ++ (insT T i p.name B).f.drop ((fieldL (insT T i p.name B).f p.name).getD 0 + 1) = T.f
  have e : (insT T i p.name B).f = T.f.take i ++ (p.name, B) :: T.f.drop i := rfl
  rw [e, hf]
  simp only [Option.getD_some]
  have hl : (T.f.take i).length = i := by rw [List.length_take]; omega
  rw [List.take_append_of_le_length (by omega), List.take_of_length_le (by omega), List.drop_append, hl]
  rw [List.drop_of_length_le (by omega), show i + 1 - i = 1 by omega]
  simp
/-- Deleting what Set has added leads back. -/
theorem del_set : ∀ {L : List Pt} {T B T' : VT}, L.all validB = true → everyL L = false → ChR L T B 0 T' → findT [T] L = some [] → (1 < L.length → ∃ P, findT [T] L.dropLast = some [P]) → dlE L T' = 0 ∧ dlT L T' = T
  | [], T, B, T', _, _, h, _, _ => h.elim
  | p :: l, T, B, T', hv, he, h, hf, hp => by
    have hv' : validB p = true ∧ l.all validB = true := by simpa using hv
    have he' : (p.kind == 3) = false ∧ everyL l = false := by simpa [everyL] using he
    have hls : leadsL p [T] = leadL p T := by simp [leadsL]
    rcases h with ⟨_, h⟩ | ⟨ha, ⟨rfl, h⟩ | ⟨hl, ⟨h0, h⟩ | ⟨U, rest, hU, Y, hY, h⟩⟩⟩
    · omega
    · simp only [findT] at hf
      rw [if_pos (by simp [ha]), hls] at hf
      have h0 : leadL p T = [] := by injection hf
      rcases h with ⟨_, ⟨_, h⟩ | ⟨_, _, h⟩ | ⟨h1, _, _, i, hi, rfl⟩⟩ | ⟨hne, _, _⟩
      · omega
      · omega
      · obtain ⟨g1, g2⟩ := ins_facts (R := B) h1 ha h0 hi
        constructor
        · unfold dlE
          rw [if_pos g2, g1]
          rfl
        · unfold dlT
          rw [g1]
          simp only [if_true]
          exact del_ins h1 h0 hi
      · exact absurd h0 hne
    · obtain ⟨P, hP⟩ := hp (by simp only [List.length_cons]; have := List.length_pos_iff.2 hl; omega)
      rw [List.dropLast_cons_of_ne_nil hl] at hP
      simp only [findT] at hP
      rw [if_pos (by simp [ha]), hls, h0, findT_nil] at hP
      cases hP
    · obtain ⟨rfl, _⟩ := lead_parts hv'.1 he'.1 ha hU
      have hf' : findT [U] l = some [] := by
        simp only [findT] at hf
        rw [if_pos (by simp [ha]), hls, hU] at hf
        exact hf
      have hp' : 1 < l.length → ∃ P, findT [U] l.dropLast = some [P] := fun _ => by
        obtain ⟨P, hP⟩ := hp (by simp only [List.length_cons]; omega)
        rw [List.dropLast_cons_of_ne_nil hl] at hP
        simp only [findT] at hP
        rw [if_pos (by simp [ha]), hls, hU] at hP
        exact ⟨P, hP⟩
      obtain ⟨i1, i2⟩ := del_set hv'.2 he'.2 hY hf' hp'
      have hr := repl_facts (Y := Y) (Z := U) hv'.1 he'.1 ha hU
      rw [h rfl]
      constructor
      · unfold dlE
        rw [if_pos hr.2.1, hr.1]
        simp only []
        rw [if_neg hl]
        exact i1
      · unfold dlT
        rw [hr.1]
        simp only []
        rw [if_neg hl, i2, hr.2.2.1]
        exact hr.2.2.2
end Go.Proofs.YtdccckoelnnnoaaGreatDoor
