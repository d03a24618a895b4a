/- Path, plain: what Set answers, and that Get finds it. -/
import Derived.Test.YtdccckoelnnnoaaDoorRep
import Derived.Test.YtdccckoelnnnoaaDoorAdP
namespace Go.Proofs.YtdccckoelnnnoaaDoor
open Go.RowKit

def rcdT : VT := .mk 9 0 0 ⟨#[]⟩ [] []
def replT (T : VT) (p : Pt) (X : VT) : VT := if p.kind = 1 then setFT T ((fieldL T.f p.name).getD 0) X else setLT T p.idx.toNat X
def AddR (T : VT) (p : Pt) (X : VT) (e : Int) (T' : VT) : Prop :=
  (p.kind ≠ 1 ∧ e = 19) ∨ (p.kind = 1 ∧ 64 ≤ T.f.length ∧ e = 9) ∨ (p.kind = 1 ∧ T.f.length < 64 ∧ e = 0 ∧ ∃ i, i ≤ T.f.length ∧ T' = insT T i p.name X)
def LastR (T : VT) (p : Pt) (X : VT) (e : Int) (T' : VT) : Prop := (leadL p T = [] ∧ AddR T p X e T') ∨ (leadL p T ≠ [] ∧ e = 0 ∧ T' = replT T p X)
/-- What change returns: its error, and the value where there is none. -/
def ChR : List Pt → VT → VT → Int → VT → Prop
  | [], _, _, _, _ => False
  | p :: l, T, X, e, T' => (appT p T = false ∧ e = 22) ∨ (appT p T = true ∧ ((l = [] ∧ LastR T p X e T') ∨ (l ≠ [] ∧
      ((leadL p T = [] ∧ ((p.kind ≠ 1 ∧ e = 19) ∨ (p.kind = 1 ∧ 64 ≤ T.f.length ∧ e = 9) ∨ (p.kind = 1 ∧ T.f.length < 64 ∧ ∃ i, i ≤ T.f.length ∧ ∃ Y, ChR l rcdT X e Y ∧ (e = 0 → T' = replT (insT T i p.name rcdT) p Y)))) ∨
       (∃ U rest, leadL p T = U :: rest ∧ ∃ Y, ChR l U X e Y ∧ (e = 0 → T' = replT T p Y))))))

theorem fieldL_some : ∀ {f : List (ByteArray × VT)} {n : ByteArray} {j : Nat}, fieldL f n = some j → (∃ x, f[j]? = some (n, x)) ∧ isF f n j
  | [], n, j, h => by cases h
  | y :: f, n, j, h => by
    unfold fieldL at h
    split at h
    · rename_i hy
      cases h
      obtain ⟨a, b⟩ := y
      simp only at hy
      subst hy
      exact ⟨⟨b, rfl⟩, fun i x hi => by omega⟩
    · rename_i hy
      cases hf : fieldL f n with
      | none => rw [hf] at h; cases h
      | some k =>
        rw [hf] at h
        cases h
        obtain ⟨⟨x, hx⟩, hk⟩ := fieldL_some hf
        refine ⟨⟨x, by simpa using hx⟩, fun i z hi hz => ?_⟩
        cases i with
        | zero => simp at hz; rw [← hz]; exact hy
        | succ i => exact hk i z (by have : i + 1 < k + 1 := hi; omega) (by simpa using hz)
theorem fieldL_no : ∀ {f : List (ByteArray × VT)} {n : ByteArray}, fieldL f n = none → ∀ (i : Nat) x, f[i]? = some x → ¬ x.1 = n
  | [], n, _, i, x, hx => by simp at hx
  | y :: f, n, h, i, x, hx => by
    unfold fieldL at h
    split at h
    · cases h
    · rename_i hy
      cases hf : fieldL f n with
      | some k => rw [hf] at h; cases h
      | none =>
        cases i with
        | zero => simp at hx; rw [← hx]; exact hy
        | succ i => exact fieldL_no hf i x (by simpa using hx)
/-- Where a part leads to a value: a field, or an element. -/
theorem lead_parts {p : Pt} {T U : VT} {rest : List VT} (hv : validB p = true) (h3 : (p.kind == 3) = false) (ha : appT p T = true) (h : leadL p T = U :: rest) :
    rest = [] ∧ ((p.kind = 1 ∧ ∃ q, fieldL T.f p.name = some q ∧ q < T.f.length ∧ T.f[q]? = some (p.name, U)) ∨ (p.kind ≠ 1 ∧ ∃ q : Nat, p.idx = (q : Int) ∧ q < T.l.length ∧ T.l[q]? = some U)) := by
  have h3' : ¬ p.kind = 3 := by simpa using h3
  have hr : rest = [] := by
    have := leadL_one ha h3
    rw [h] at this
    simpa using this
  refine ⟨hr, ?_⟩
  subst hr
  unfold leadL at h
  split at h
  · rename_i h1
    split at h
    · rename_i j hj
      obtain ⟨⟨x, hx⟩, _⟩ := fieldL_some hj
      rw [hx] at h
      simp at h
      exact .inl ⟨h1, j, hj, (List.getElem?_eq_some_iff.1 hx).1, by rw [hx, h]⟩
    · cases h
  · rename_i h1
    refine .inr ⟨h1, ?_⟩
    split at h
    · rename_i h4
      have hi : p.idx = 0 := by
        unfold validB at hv
        rw [if_pos (.inr h4)] at hv
        have := (Bool.and_eq_true _ _ ▸ hv : _ ∧ _).1
        simpa using this
      split at h
      · exact ⟨0, by rw [hi]; rfl, by rw [h]; simp, by rw [h]; rfl⟩
      · cases h
    · split at h
      · rename_i h4 h2
        have hi : 0 ≤ p.idx := by
          unfold validB at hv
          rw [if_neg (by omega), if_pos h2] at hv
          have := (Bool.and_eq_true _ _ ▸ hv : _ ∧ _).1
          have := (Bool.and_eq_true _ _ ▸ this : _ ∧ _).2
          simpa using this
        split at h
        · rename_i hlt
          refine ⟨p.idx.toNat, by omega, by omega, ?_⟩
          cases hx : T.l[p.idx.toNat]? with
          | none => rw [hx] at h; cases h
          | some y => rw [hx] at h; simp at h; rw [h]
        · cases h
      · cases h
theorem setFT_f {T X : VT} {q : Nat} {n : ByteArray} {U : VT} (h : T.f[q]? = some (n, U)) : (setFT T q X).f = T.f.set q (n, X) := by
  unfold setFT
  rw [h]
  rfl
theorem set_self {α : Type} {l : List α} {q : Nat} {x : α} (h : l[q]? = some x) : l.set q x = l := by
  apply List.ext_getElem?
  intro i
  by_cases e : q = i
  · subst e
    rw [List.getElem?_set_self (List.getElem?_eq_some_iff.1 h).1, h]
  · rw [List.getElem?_set_ne e]
theorem fieldL_set {f : List (ByteArray × VT)} {n : ByteArray} {q : Nat} {X : VT} (h : fieldL f n = some q) : fieldL (f.set q (n, X)) n = some q := by
  obtain ⟨⟨x, hx⟩, hF⟩ := fieldL_some h
  refine fieldL_hit (x := (n, X)) (fun i z hi hz => ?_) (by rw [List.getElem?_set_self (List.getElem?_eq_some_iff.1 hx).1]) rfl
  rw [List.getElem?_set_ne (by omega)] at hz
  exact hF i z hi hz
theorem repl_facts {p : Pt} {T U Y Z : VT} {rest : List VT} (hv : validB p = true) (h3 : (p.kind == 3) = false) (ha : appT p T = true) (h : leadL p T = U :: rest) :
    leadL p (replT T p Y) = [Y] ∧ appT p (replT T p Y) = true ∧ replT (replT T p Y) p Z = replT T p Z ∧ replT T p U = T := by
  have h3' : ¬ p.kind = 3 := by simpa using h3
  obtain ⟨_, ⟨h1, q, hq, hlt, hU⟩ | ⟨h1, q, hq, hlt, hU⟩⟩ := lead_parts hv h3 ha h
  · have e1 : ∀ W, replT T p W = setFT T q W := fun W => by unfold replT; rw [if_pos h1, hq]; rfl
    have hf : ∀ W, (setFT T q W).f = T.f.set q (p.name, W) := fun W => setFT_f hU
    have hl : ∀ W, fieldL (setFT T q W).f p.name = some q := fun W => by rw [hf]; exact fieldL_set hq
    refine ⟨?_, ?_, ?_, ?_⟩
    · rw [e1]
      unfold leadL
      rw [if_pos h1, hl, hf]
      simp only []
      rw [List.getElem?_set_self hlt]
      rfl
    · rw [e1]
      unfold appT at ha ⊢
      rw [if_pos h1] at ha ⊢
      exact ha
    · rw [e1, e1]
      unfold replT
      rw [if_pos h1, hl]
      apply VT.ext <;> try rfl
      show (setFT (setFT T q Y) q Z).f = _
      rw [setFT_f (T := setFT T q Y) (q := q) (n := p.name) (U := Y) (by rw [hf, List.getElem?_set_self hlt]), hf, hf, List.set_set]
    · rw [e1]
      apply VT.ext <;> try rfl
      rw [hf]
      exact set_self hU
  · have e1 : ∀ V W, replT V p W = setLT V q W := fun V W => by unfold replT; rw [if_neg h1, hq]; rfl
    have hla : appT p (setLT T q Y) = true := by
      unfold appT at ha ⊢
      rw [if_neg h1] at ha ⊢
      show (if p.kind = 4 then (T.k == 10) && (((T.l.set q Y).length : Int) == 1) else T.k == 8) = true
      rw [List.length_set]
      exact ha
    refine ⟨?_, by rw [e1]; exact hla, ?_, ?_⟩
    · rw [e1]
      have hy : (T.l.set q Y)[q]? = some Y := List.getElem?_set_self hlt
      unfold leadL at h ⊢
      rw [if_neg h1, if_neg h3'] at h ⊢
      split at h
      · rename_i h4
        rw [if_pos h4]
        split at h
        · rename_i ht
          rw [if_pos (show (setLT T q Y).t = p.name from ht)]
          have hl1 : T.l.length = 1 := by
            unfold appT at ha
            rw [if_neg h1, if_pos h4] at ha
            have := (Bool.and_eq_true _ _ ▸ ha : _ ∧ _).2
            have : (T.l.length : Int) = 1 := by simpa using this
            omega
          have hq0 : q = 0 := by omega
          subst hq0
          show T.l.set 0 Y = [Y]
          match hT : T.l, hl1 with
          | [a], _ => rfl
        · cases h
      · rename_i h4
        rw [if_neg h4]
        split at h
        · rename_i h2
          rw [if_pos h2]
          show (if p.idx < ((T.l.set q Y).length : Int) then ((T.l.set q Y)[p.idx.toNat]?).toList else []) = [Y]
          rw [List.length_set, if_pos (by omega), hq]
          simp only [Int.toNat_natCast]
          rw [hy]
          rfl
        · cases h
    · rw [e1, e1, e1]
      apply VT.ext <;> try rfl
      exact List.set_set ..
    · rw [e1]
      apply VT.ext <;> try rfl
      exact set_self hU
theorem ins_facts {p : Pt} {T R : VT} {i : Nat} (h1 : p.kind = 1) (ha : appT p T = true) (h : leadL p T = []) (hi : i ≤ T.f.length) : leadL p (insT T i p.name R) = [R] ∧ appT p (insT T i p.name R) = true := by
  have hn : fieldL T.f p.name = none := by
    unfold leadL at h
    rw [if_pos h1] at h
    cases hf : fieldL T.f p.name with
    | none => rfl
    | some j =>
      rw [hf] at h
      obtain ⟨⟨x, hx⟩, _⟩ := fieldL_some hf
      simp only [hx] at h
      simp at h
  have hx : (T.f.take i ++ (p.name, R) :: T.f.drop i)[i]? = some (p.name, R) := by
    rw [List.getElem?_append_right (by simp; omega), List.length_take, Nat.min_eq_left hi, Nat.sub_self]
    rfl
  have hf : fieldL (T.f.take i ++ (p.name, R) :: T.f.drop i) p.name = some i := by
    refine fieldL_hit (x := (p.name, R)) (fun j z hj hz => ?_) hx rfl
    rw [List.getElem?_append_left (by rw [List.length_take]; omega), List.getElem?_take_of_lt hj] at hz
    exact fieldL_no hn j z hz
  refine ⟨?_, ?_⟩
  · unfold leadL insT
    rw [if_pos h1]
    show (match fieldL (T.f.take i ++ (p.name, R) :: T.f.drop i) p.name with | some j => (((T.f.take i ++ (p.name, R) :: T.f.drop i)[j]?).map (·.2)).toList | none => []) = [R]
    rw [hf]
    simp only []
    rw [hx]
    rfl
  · unfold appT at ha ⊢
    rw [if_pos h1] at ha ⊢
    exact ha
theorem setL_size : ∀ {l : List VT} {q : Nat} {X : VT}, sizeL (l.set q X) ≤ max (sizeL l) X.size
  | [], _, _ => by simp [sizeL]
  | y :: l, 0, X => by simp only [List.set_cons_zero, sizeL]; omega
  | y :: l, q + 1, X => by have := setL_size (l := l) (q := q) (X := X); simp only [List.set_cons_succ, sizeL, List.length_set]; omega
theorem setF_size : ∀ {l : List (ByteArray × VT)} {q : Nat} {n : ByteArray} {X : VT}, sizeF (l.set q (n, X)) ≤ max (sizeF l) X.size
  | [], _, _, _ => by simp [sizeF]
  | (_, y) :: l, 0, n, X => by simp only [List.set_cons_zero, sizeF]; omega
  | (_, y) :: l, q + 1, n, X => by have := setF_size (l := l) (q := q) (n := n) (X := X); simp only [List.set_cons_succ, sizeF, List.length_set]; omega
theorem VT.size_eq (T : VT) : T.size = max (sizeL T.l) (sizeF T.f) := by cases T; rfl
theorem repl_size (T : VT) (p : Pt) (X : VT) : (replT T p X).size ≤ max T.size X.size := by
  rw [VT.size_eq, VT.size_eq T]
  unfold replT
  split
  · have := setF_size (l := T.f) (q := (fieldL T.f p.name).getD 0) (n := ((T.f[(fieldL T.f p.name).getD 0]?).map (·.1)).getD ⟨#[]⟩) (X := X)
    show max (sizeL T.l) (sizeF (T.f.set _ _)) ≤ _
    omega
  · have := setL_size (l := T.l) (q := p.idx.toNat) (X := X)
    show max (sizeL (T.l.set _ _)) (sizeF T.f) ≤ _
    omega
theorem ins_size {T : VT} (hl : T.f.length < 64) (i : Nat) (n : ByteArray) (X : VT) : (insT T i n X).size ≤ max (max T.size X.size) 6656 := by
  rw [VT.size_eq, VT.size_eq T]
  show max (sizeL T.l) (sizeF (T.f.take i ++ (n, X) :: T.f.drop i)) ≤ _
  have h1 : sizeF (T.f.take i ++ (n, X) :: T.f.drop i) ≤ max (max (sizeF T.f) X.size) 6656 := by
    refine sizeF_le ?_ ?_
    · rw [List.length_append, List.length_cons, List.length_take, List.length_drop]
      omega
    · intro x hx
      rcases List.mem_append.1 hx with hx | hx
      · have := sizeF_in (List.mem_of_mem_take hx); omega
      · rcases List.mem_cons.1 hx with rfl | hx
        · show X.size ≤ _; omega
        · have := sizeF_in (List.mem_of_mem_drop hx); omega
  omega
theorem rec_size : rcdT.size = 0 := by simp [rcdT, VT.size, sizeL, sizeF]
theorem lead_size1 {p : Pt} {T U : VT} {rest : List VT} (h : leadL p T = U :: rest) : U.size ≤ T.size := by
  have := lead_size p T
  rw [h] at this
  simp only [sizeL] at this
  omega
/-- The size of what change returns. -/
theorem ch_size : ∀ {L : List Pt} {T X T' : VT}, ChR L T X 0 T' → T'.size ≤ max (max T.size X.size) 6656
  | [], T, X, T', h => h.elim
  | p :: l, T, X, T', h => by
    rcases h with ⟨_, h⟩ | ⟨_, ⟨rfl, h⟩ | ⟨hl, ⟨_, h⟩ | ⟨U, rest, hU, Y, hY, h⟩⟩⟩
    · omega
    · rcases h with ⟨_, ⟨_, h⟩ | ⟨_, _, h⟩ | ⟨_, h64, _, i, _, rfl⟩⟩ | ⟨_, _, rfl⟩
      · omega
      · omega
      · exact ins_size h64 i p.name X
      · have := repl_size T p X; omega
    · rcases h with ⟨_, h⟩ | ⟨_, _, h⟩ | ⟨_, h64, i, _, Y, hY, h⟩
      · omega
      · omega
      · have h1 := ch_size hY
        rw [h rfl]
        have h2 := repl_size (insT T i p.name rcdT) p Y
        have h3 := ins_size h64 i p.name rcdT
        rw [rec_size] at h1 h3
        omega
    · have h1 := ch_size hY
      rw [h rfl]
      have h2 := repl_size T p Y
      have h3 := lead_size1 hU
      omega
/-- What was set is found. -/
theorem ch_find : ∀ {L : List Pt} {T X T' : VT}, L.all validB = true → everyL L = false → ChR L T X 0 T' → findT [T'] L = some [X]
  | [], T, X, T', _, _, h => h.elim
  | p :: l, T, X, T', hv, he, h => by
    have hv' : validB p = true ∧ l.all validB = true := by simpa using hv
    have he' : (p.kind == 3) = false ∧ everyL l = false := by simpa [everyL] using he
    have key : ∀ {V Y : VT}, leadL p V = [Y] → appT p V = true → findT [Y] l = some [X] → findT [V] (p :: l) = some [X] := fun {V Y} h1 h2 h3 => by
      simp only [findT]
      rw [if_pos (by simp [h2])]
      have : leadsL p [V] = [Y] := by simp [leadsL, h1]
      rw [this, h3]
    rcases h with ⟨_, h⟩ | ⟨ha, ⟨rfl, h⟩ | ⟨hl, ⟨h0, h⟩ | ⟨U, rest, hU, Y, hY, h⟩⟩⟩
    · omega
    · rcases h with ⟨h0, ⟨_, h⟩ | ⟨_, _, h⟩ | ⟨h1, _, _, i, hi, rfl⟩⟩ | ⟨hne, _, rfl⟩
      · omega
      · omega
      · obtain ⟨g1, g2⟩ := ins_facts (R := X) h1 ha h0 hi
        exact key g1 g2 rfl
      · cases hL : leadL p T with
        | nil => exact absurd hL hne
        | cons U rest =>
          obtain ⟨g1, g2, _⟩ := repl_facts (Y := X) (Z := X) hv'.1 he'.1 ha hL
          exact key g1 g2 rfl
    · rcases h with ⟨_, h⟩ | ⟨_, _, h⟩ | ⟨h1, _, i, hi, Y, hY, h⟩
      · omega
      · omega
      · obtain ⟨g1, g2⟩ := ins_facts (R := rcdT) h1 ha h0 hi
        obtain ⟨k1, k2, _⟩ := repl_facts (Y := Y) (Z := Y) hv'.1 he'.1 g2 g1
        rw [h rfl]
        exact key k1 k2 (ch_find hv'.2 he'.2 hY)
    · obtain ⟨k1, k2, _⟩ := repl_facts (Y := Y) (Z := Y) hv'.1 he'.1 ha hU
      rw [h rfl]
      exact key k1 k2 (ch_find hv'.2 he'.2 hY)
/-- Where something can be set, Find answers. -/
theorem ch_applies : ∀ {L : List Pt} {T X T' : VT}, L.all validB = true → everyL L = false → ChR L T X 0 T' → ∃ R, findT [T] L = some R ∧ R.length ≤ 1
  | [], T, X, T', _, _, h => h.elim
  | p :: l, T, X, T', hv, he, h => by
    have hv' : validB p = true ∧ l.all validB = true := by simpa using hv
    have he' : (p.kind == 3) = false ∧ everyL l = false := by simpa [everyL] using he
    have key : ∀ R, appT p T = true → findT (leadsL p [T]) l = some R → R.length ≤ 1 → ∃ R, findT [T] (p :: l) = some R ∧ R.length ≤ 1 := fun R h2 h3 h4 => ⟨R, by simp only [findT]; rw [if_pos (by simp [h2]), h3], h4⟩
    have key0 : appT p T = true → leadL p T = [] → ∃ R, findT [T] (p :: l) = some R ∧ R.length ≤ 1 := fun h2 h0 => key [] h2 (by
      have : leadsL p [T] = [] := by simp [leadsL, h0]
      rw [this]; exact findT_nil l) (by simp)
    rcases h with ⟨_, h⟩ | ⟨ha, ⟨rfl, h⟩ | ⟨hl, ⟨h0, h⟩ | ⟨U, rest, hU, Y, hY, h⟩⟩⟩
    · omega
    · refine key _ ha rfl ?_
      simpa [leadsL] using leadL_one ha he'.1
    · exact key0 ha h0
    · obtain ⟨rfl, _⟩ := lead_parts hv'.1 he'.1 ha hU
      obtain ⟨R, h1, h2⟩ := ch_applies hv'.2 he'.2 hY
      refine key R ha ?_ h2
      have : leadsL p [T] = [U] := by simp [leadsL, hU]
      rw [this, h1]
/-- The old value set again. -/
theorem ch_back : ∀ {L : List Pt} {T X T' O : VT}, L.all validB = true → everyL L = false → ChR L T X 0 T' → findT [T] L = some [O] →
    (∀ {e : Int} {Y : VT}, ChR L T O e Y → e = 0 ∧ Y = T) ∧ (∀ {e : Int} {Y : VT}, ChR L T' O e Y → e = 0 ∧ Y = T)
  | [], T, X, T', O, _, _, h, _ => h.elim
  | p :: l, T, X, T', O, hv, he, h, hf => by
    have hv' : validB p = true ∧ l.all validB = true := by simpa using hv
    have he' : (p.kind == 3) = false ∧ everyL l = false := by simpa [everyL] using he
    simp only [findT] at hf
    split at hf
    · rename_i hall
      have ha : appT p T = true := by simpa using hall
      have hls : leadsL p [T] = leadL p T := by simp [leadsL]
      rw [hls] at hf
      cases hL : leadL p T with
      | nil =>
        rw [hL, findT_nil] at hf
        cases hf
      | cons U rest =>
        obtain ⟨rfl, _⟩ := lead_parts hv'.1 he'.1 ha hL
        rw [hL] at hf
        have hrep : ∀ {Y Z : VT}, leadL p (replT T p Y) = [Y] ∧ appT p (replT T p Y) = true ∧ replT (replT T p Y) p Z = replT T p Z ∧ replT T p U = T := fun {Y Z} => repl_facts hv'.1 he'.1 ha hL
        have hT' : ∃ Y, T' = replT T p Y ∧ ((l = [] ∧ Y = X) ∨ (l ≠ [] ∧ ChR l U X 0 Y)) := by
          rcases h with ⟨h, _⟩ | ⟨_, ⟨rfl, h⟩ | ⟨hl, ⟨h0, h⟩ | ⟨U', rest', hU', Y, hY, h⟩⟩⟩
          · rw [ha] at h; cases h
          · rcases h with ⟨h0, _⟩ | ⟨_, _, rfl⟩
            · rw [hL] at h0; cases h0
            · exact ⟨X, rfl, .inl ⟨rfl, rfl⟩⟩
          · rw [hL] at h0; cases h0
          · rw [hL] at hU'
            cases hU'
            exact ⟨Y, h rfl, .inr ⟨hl, hY⟩⟩
        obtain ⟨Y0, rfl, hY0⟩ := hT'
        rcases hY0 with ⟨rfl, rfl⟩ | ⟨hl, hY0⟩
        · simp only [findT] at hf
          cases hf
          constructor
          · intro e Y hc
            rcases hc with ⟨hc, _⟩ | ⟨_, ⟨_, hc⟩ | ⟨hl, _⟩⟩
            · rw [ha] at hc; cases hc
            · rcases hc with ⟨h0, _⟩ | ⟨_, he0, rfl⟩
              · rw [hL] at h0; cases h0
              · exact ⟨he0, (hrep (Y := O) (Z := O)).2.2.2⟩
            · exact absurd rfl hl
          · intro e Y hc
            have hr := hrep (Y := Y0) (Z := O)
            rcases hc with ⟨hc, _⟩ | ⟨_, ⟨_, hc⟩ | ⟨hl, _⟩⟩
            · rw [hr.2.1] at hc; cases hc
            · rcases hc with ⟨h0, _⟩ | ⟨_, he0, rfl⟩
              · rw [hr.1] at h0; cases h0
              · exact ⟨he0, hr.2.2.1.trans hr.2.2.2⟩
            · exact absurd rfl hl
        · have ih := ch_back hv'.2 he'.2 hY0 hf
          constructor
          · intro e Y hc
            rcases hc with ⟨hc, _⟩ | ⟨_, ⟨h0, _⟩ | ⟨_, ⟨h0, _⟩ | ⟨U', rest', hU', Z, hZ, hc⟩⟩⟩
            · rw [ha] at hc; cases hc
            · exact absurd h0 hl
            · rw [hL] at h0; cases h0
            · rw [hL] at hU'
              cases hU'
              obtain ⟨he0, rfl⟩ := ih.1 hZ
              exact ⟨he0, (hc he0).trans (hrep (Y := Z) (Z := Z)).2.2.2⟩
          · intro e Y hc
            have hr := hrep (Y := Y0) (Z := U)
            rcases hc with ⟨hc, _⟩ | ⟨_, ⟨h0, _⟩ | ⟨_, ⟨h0, _⟩ | ⟨U', rest', hU', Z, hZ, hc⟩⟩⟩
            · rw [hr.2.1] at hc; cases hc
            · exact absurd h0 hl
            · rw [hr.1] at h0; cases h0
            · rw [hr.1] at hU'
              cases hU'
              obtain ⟨he0, rfl⟩ := ih.2 hZ
              exact ⟨he0, (hc he0).trans (hr.2.2.1.trans hr.2.2.2)⟩
    · cases hf
end Go.Proofs.YtdccckoelnnnoaaDoor
