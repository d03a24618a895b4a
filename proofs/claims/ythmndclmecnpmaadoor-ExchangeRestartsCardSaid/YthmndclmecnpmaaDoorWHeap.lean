/- Plain: a binary heap in a list. What up, down, push and pop make of it: a heap again, with the same elements; a pop takes the least one. -/
import Derived.Test.YthmndclmecnpmaaDoorWQueue
namespace Go.Proofs.YthmndclmecnpmaaDoor.Nw

/-- The order of the copies: by the step, then by the packet, then by the copy. -/
def Cp.lt (a b : Cp) : Bool := decide (a.at_ < b.at_) || (a.at_ == b.at_ && (decide (a.pk < b.pk) || (a.pk == b.pk && decide (a.ix < b.ix))))
set_option maxRecDepth 100000 in
theorem Cp.lt_iff {a b : Cp} : Cp.lt a b = true ↔ a.at_ < b.at_ ∨ (a.at_ = b.at_ ∧ (a.pk < b.pk ∨ (a.pk = b.pk ∧ a.ix < b.ix))) := by
  simp [Cp.lt]
set_option maxRecDepth 100000 in
theorem Cp.lt_asymm {a b : Cp} (h : Cp.lt a b = true) : ¬ Cp.lt b a = true := by rw [Cp.lt_iff] at *; omega
set_option maxRecDepth 100000 in
theorem Cp.lt_irrefl (a : Cp) : ¬ Cp.lt a a = true := by rw [Cp.lt_iff]; omega
set_option maxRecDepth 100000 in
theorem Cp.lt_trans {a b c : Cp} (h : Cp.lt a b = true) (k : Cp.lt b c = true) : Cp.lt a c = true := by rw [Cp.lt_iff] at *; omega
set_option maxRecDepth 100000 in
theorem Cp.le_trans {a b c : Cp} (h : ¬ Cp.lt b a = true) (k : ¬ Cp.lt c b = true) : ¬ Cp.lt c a = true := by rw [Cp.lt_iff] at *; omega

def gq (q : List Cp) (i : Nat) : Cp := q.getD i default

set_option maxRecDepth 100000 in
theorem gq_set (q : List Cp) (i m : Nat) (x : Cp) (hi : i < q.length) : gq (q.set i x) m = if m = i then x else gq q m := by
  unfold gq
  by_cases h : m = i
  · subst h; simp [hi]
  · simp [h, List.getElem?_set_ne (Ne.symm h)]
set_option maxRecDepth 100000 in
theorem gq_swap (q : List Cp) (i j m : Nat) (hi : i < q.length) (hj : j < q.length) : gq (swapQ q i j) m = if m = j then gq q i else if m = i then gq q j else gq q m := by
  unfold swapQ
  rw [gq_set _ _ _ _ (by simpa using hj), gq_set _ _ _ _ hi]
  rfl

set_option maxRecDepth 100000 in
theorem swapQ_perm (q : List Cp) (i j : Nat) (hi : i < q.length) (hj : j < q.length) : (swapQ q i j).Perm q := by
  have e : swapQ q i j = (q.set i q[j]).set j q[i] := by simp [swapQ, hi, hj]
  rw [e]
  have := Array.swap_perm (xs := q.toArray) (i := i) (j := j) (by simpa using hi) (by simpa using hj)
  simpa [Array.perm_iff_toList_perm, Array.swap_def] using this

/-- The first n elements are a heap. -/
def HeapN (q : List Cp) (n : Nat) : Prop := ∀ m, 0 < m → m < n → ¬ Cp.lt (gq q m) (gq q ((m - 1) / 2)) = true

def upL : Nat → List Cp → Nat → List Cp
  | 0, q, _ => q
  | f + 1, q, j => if (j - 1) / 2 = j then q else if Cp.lt (gq q j) (gq q ((j - 1) / 2)) then upL f (swapQ q ((j - 1) / 2) j) ((j - 1) / 2) else q

set_option maxRecDepth 100000 in
theorem upL_len : ∀ (f : Nat) (q : List Cp) (j : Nat), (upL f q j).length = q.length
  | 0, _, _ => rfl
  | f + 1, q, j => by
    unfold upL
    (repeat' split) <;> simp [upL_len f, swapQ_len]

set_option maxRecDepth 100000 in
theorem upL_fuel : ∀ (f f' : Nat) (q : List Cp) (j : Nat), j < f → j < f' → upL f q j = upL f' q j
  | 0, _, _, _, h, _ => absurd h (by omega)
  | _, 0, _, _, _, h => absurd h (by omega)
  | f + 1, f' + 1, q, j, h, h' => by
    unfold upL
    split
    · rfl
    · split
      · exact upL_fuel f f' _ _ (by omega) (by omega)
      · rfl

set_option maxRecDepth 100000 in
theorem upL_perm : ∀ (f : Nat) (q : List Cp) (j : Nat), j < q.length → (upL f q j).Perm q
  | 0, _, _, _ => List.Perm.refl _
  | f + 1, q, j, h => by
    unfold upL
    split
    · exact List.Perm.refl _
    · split
      · exact (upL_perm f _ _ (by rw [swapQ_len]; omega)).trans (swapQ_perm q _ _ (by omega) h)
      · exact List.Perm.refl _

set_option maxRecDepth 100000 in
theorem upL_heap : ∀ (f : Nat) (q : List Cp) (j n : Nat), j < f → n ≤ q.length → j < n →
    (∀ m, 0 < m → m < n → m ≠ j → ¬ Cp.lt (gq q m) (gq q ((m - 1) / 2)) = true) →
    (∀ c, 0 < c → c < n → (c - 1) / 2 = j → 0 < j → ¬ Cp.lt (gq q c) (gq q ((j - 1) / 2)) = true) → HeapN (upL f q j) n
  | 0, _, _, _, h, _, _, _, _ => absurd h (by omega)
  | f + 1, q, j, n, hf, hn, hj, h1, h2 => by
    unfold upL
    by_cases e : (j - 1) / 2 = j
    · rw [if_pos e]
      intro m m0 m1
      exact h1 m m0 m1 (by omega)
    · rw [if_neg e]
      by_cases hl : Cp.lt (gq q j) (gq q ((j - 1) / 2)) = true
      · rw [if_pos hl]
        have hgs := fun m => gq_swap q ((j - 1) / 2) j m (by omega) (by omega)
        generalize hi : (j - 1) / 2 = i at *
        refine upL_heap f _ i n (by omega) (by rw [swapQ_len]; exact hn) (by omega) ?_ ?_
        · intro m m0 m1 hm
          rw [hgs, hgs]
          by_cases ej : m = j
          · rw [if_pos ej, ej, hi, if_neg (by omega), if_pos rfl]
            exact Cp.lt_asymm hl
          · rw [if_neg ej, if_neg hm]
            by_cases pj : (m - 1) / 2 = j
            · rw [if_pos pj]
              exact h2 m m0 m1 pj (by omega)
            · rw [if_neg pj]
              by_cases pi : (m - 1) / 2 = i
              · rw [if_pos pi]
                intro hc
                have := h1 m m0 m1 ej
                rw [pi] at this
                exact this (Cp.lt_trans hc hl)
              · rw [if_neg pi]
                exact h1 m m0 m1 ej
        · intro c c0 c1 hc i0
          rw [hgs, hgs, if_neg (show (i - 1) / 2 ≠ j by omega), if_neg (show (i - 1) / 2 ≠ i by omega)]
          have hii := h1 i i0 (by omega) (by omega)
          by_cases ej : c = j
          · rw [if_pos ej]
            exact hii
          · rw [if_neg ej, if_neg (show c ≠ i by omega)]
            have := h1 c c0 c1 ej
            rw [hc] at this
            exact Cp.le_trans hii this
      · rw [if_neg hl]
        intro m m0 m1
        by_cases ej : m = j
        · rw [ej, ]; exact hl
        · exact h1 m m0 m1 ej

def downL : Nat → List Cp → Nat → Nat → List Cp
  | 0, q, _, _ => q
  | f + 1, q, i, n =>
    if n ≤ 2 * i + 1 then q
    else if Cp.lt (gq q (if 2 * i + 2 < n ∧ Cp.lt (gq q (2 * i + 2)) (gq q (2 * i + 1)) = true then 2 * i + 2 else 2 * i + 1)) (gq q i) then
      downL f (swapQ q i (if 2 * i + 2 < n ∧ Cp.lt (gq q (2 * i + 2)) (gq q (2 * i + 1)) = true then 2 * i + 2 else 2 * i + 1)) (if 2 * i + 2 < n ∧ Cp.lt (gq q (2 * i + 2)) (gq q (2 * i + 1)) = true then 2 * i + 2 else 2 * i + 1) n
    else q

/-- The smaller child. -/
def kid (q : List Cp) (i n : Nat) : Nat := if 2 * i + 2 < n ∧ Cp.lt (gq q (2 * i + 2)) (gq q (2 * i + 1)) = true then 2 * i + 2 else 2 * i + 1
set_option maxRecDepth 100000 in
theorem kid_is (q : List Cp) (i n : Nat) (h : 2 * i + 1 < n) : (kid q i n = 2 * i + 1 ∨ kid q i n = 2 * i + 2) ∧ kid q i n < n ∧ ∀ c, 0 < c → c < n → (c - 1) / 2 = i → ¬ Cp.lt (gq q c) (gq q (kid q i n)) = true := by
  unfold kid
  split
  · rename_i hc
    refine ⟨.inr rfl, hc.1, fun c c0 c1 cp => ?_⟩
    rcases (show c = 2 * i + 1 ∨ c = 2 * i + 2 from by omega) with rfl | rfl
    · exact Cp.lt_asymm hc.2
    · exact Cp.lt_irrefl _
  · rename_i hc
    refine ⟨.inl rfl, h, fun c c0 c1 cp => ?_⟩
    rcases (show c = 2 * i + 1 ∨ c = 2 * i + 2 from by omega) with rfl | rfl
    · exact Cp.lt_irrefl _
    · exact fun hl => hc ⟨c1, hl⟩
set_option maxRecDepth 100000 in
theorem downL_succ (f : Nat) (q : List Cp) (i n : Nat) : downL (f + 1) q i n = if n ≤ 2 * i + 1 then q else if Cp.lt (gq q (kid q i n)) (gq q i) then downL f (swapQ q i (kid q i n)) (kid q i n) n else q := rfl

set_option maxRecDepth 100000 in
theorem downL_len : ∀ (f : Nat) (q : List Cp) (i n : Nat), (downL f q i n).length = q.length
  | 0, _, _, _ => rfl
  | f + 1, q, i, n => by
    rw [downL_succ]
    (repeat' split) <;> simp [downL_len f, swapQ_len]

set_option maxRecDepth 100000 in
theorem downL_fuel : ∀ (f f' : Nat) (q : List Cp) (i n : Nat), n < f + i → n < f' + i → downL f q i n = downL f' q i n
  | 0, 0, _, _, _, _, _ => rfl
  | 0, f' + 1, q, i, n, h, _ => by rw [downL_succ, if_pos (by omega)]; rfl
  | f + 1, 0, q, i, n, _, h => by rw [downL_succ, if_pos (by omega)]; rfl
  | f + 1, f' + 1, q, i, n, h, h' => by
    rw [downL_succ, downL_succ]
    by_cases hn : n ≤ 2 * i + 1
    · rw [if_pos hn, if_pos hn]
    · rw [if_neg hn, if_neg hn]
      have hk := kid_is q i n (by omega)
      split
      · exact downL_fuel f f' _ _ _ (by omega) (by omega)
      · rfl

set_option maxRecDepth 100000 in
theorem downL_perm : ∀ (f : Nat) (q : List Cp) (i n : Nat), n ≤ q.length → (downL f q i n).Perm q
  | 0, _, _, _, _ => List.Perm.refl _
  | f + 1, q, i, n, h => by
    rw [downL_succ]
    split
    · exact List.Perm.refl _
    · have hk := kid_is q i n (by omega)
      split
      · exact (downL_perm f _ _ _ (by rw [swapQ_len]; omega)).trans (swapQ_perm q _ _ (by omega) (by omega))
      · exact List.Perm.refl _

set_option maxRecDepth 100000 in
theorem downL_past : ∀ (f : Nat) (q : List Cp) (i n m : Nat), n ≤ q.length → n ≤ m → gq (downL f q i n) m = gq q m
  | 0, _, _, _, _, _, _ => rfl
  | f + 1, q, i, n, m, h, hm => by
    rw [downL_succ]
    split
    · rfl
    · have hk := kid_is q i n (by omega)
      split
      · rw [downL_past f _ _ _ _ (by rw [swapQ_len]; omega) hm, gq_swap _ _ _ _ (by omega) (by omega), if_neg (by omega), if_neg (by omega)]
      · rfl

set_option maxRecDepth 100000 in
theorem downL_heap : ∀ (f : Nat) (q : List Cp) (i n : Nat), n < f + i → n ≤ q.length →
    (∀ m, 0 < m → m < n → (m - 1) / 2 ≠ i → ¬ Cp.lt (gq q m) (gq q ((m - 1) / 2)) = true) →
    (∀ c, 0 < c → c < n → (c - 1) / 2 = i → 0 < i → ¬ Cp.lt (gq q c) (gq q ((i - 1) / 2)) = true) → HeapN (downL f q i n) n
  | 0, q, i, n, hf, hn, h1, h2 => by
    intro m m0 m1
    exact h1 m m0 m1 (by omega)
  | f + 1, q, i, n, hf, hn, h1, h2 => by
    rw [downL_succ]
    by_cases hc : n ≤ 2 * i + 1
    · rw [if_pos hc]
      intro m m0 m1
      exact h1 m m0 m1 (by omega)
    · rw [if_neg hc]
      obtain ⟨hk, hkn, hmin⟩ := kid_is q i n (by omega)
      generalize kid q i n = j at *
      by_cases hl : Cp.lt (gq q j) (gq q i) = true
      · rw [if_pos hl]
        have hgs := fun m => gq_swap q i j m (by omega) (by omega)
        refine downL_heap f _ j n (by omega) (by rw [swapQ_len]; exact hn) ?_ ?_
        · intro m m0 m1 hm
          rw [hgs, hgs, if_neg hm]
          by_cases ej : m = j
          · rw [if_pos ej, ej, if_pos (show (j - 1) / 2 = i by omega)]
            exact Cp.lt_asymm hl
          · rw [if_neg ej]
            by_cases ei : m = i
            · rw [if_pos ei, ei, if_neg (show (i - 1) / 2 ≠ i by omega)]
              exact h2 j (by omega) hkn (by omega) (by omega)
            · rw [if_neg ei]
              by_cases pi : (m - 1) / 2 = i
              · rw [if_pos pi]
                exact hmin m m0 m1 pi
              · rw [if_neg pi]
                exact h1 m m0 m1 pi
        · intro c c0 c1 hcj j0
          rw [hgs, hgs, if_neg (show c ≠ j by omega), if_neg (show c ≠ i by omega), if_neg (show (j - 1) / 2 ≠ j by omega), if_pos (show (j - 1) / 2 = i by omega)]
          have := h1 c c0 c1 (by omega)
          rw [hcj] at this
          exact this
      · rw [if_neg hl]
        intro m m0 m1
        by_cases pi : (m - 1) / 2 = i
        · rw [pi]
          exact Cp.le_trans hl (hmin m m0 m1 pi)
        · exact h1 m m0 m1 pi

/-! Push and pop. -/
def pushL (q : List Cp) (x : Cp) : List Cp := upL (q.length + 1) (q ++ [x]) q.length
def popL (q : List Cp) : List Cp := downL q.length (swapQ q 0 (q.length - 1)) 0 (q.length - 1)

set_option maxRecDepth 100000 in
theorem gq_append (q r : List Cp) (m : Nat) (h : m < q.length) : gq (q ++ r) m = gq q m := by simp [gq, List.getElem?_append_left h]
set_option maxRecDepth 100000 in
theorem gq_take (q : List Cp) (n m : Nat) (h : m < n) : gq (q.take n) m = gq q m := by simp [gq, h]
set_option maxRecDepth 100000 in
theorem pushL_perm (q : List Cp) (x : Cp) : (pushL q x).Perm (q ++ [x]) := upL_perm _ _ _ (by simp)
set_option maxRecDepth 100000 in
theorem pushL_len (q : List Cp) (x : Cp) : (pushL q x).length = q.length + 1 := by simp [pushL, upL_len]
set_option maxRecDepth 100000 in
theorem pushL_heap (q : List Cp) (x : Cp) (h : HeapN q q.length) : HeapN (pushL q x) (q.length + 1) := by
  refine upL_heap _ _ _ _ (by omega) (by simp) (by omega) ?_ ?_
  · intro m m0 m1 hm
    rw [gq_append _ _ _ (by omega), gq_append _ _ _ (by omega)]
    exact h m m0 (by omega)
  · intro c c0 c1 hc hj
    omega

set_option maxRecDepth 100000 in
theorem HeapN.min {q : List Cp} {n : Nat} (h : HeapN q n) : ∀ m, m < n → ¬ Cp.lt (gq q m) (gq q 0) = true := by
  intro m
  induction m using Nat.strongRecOn with
  | _ m ih =>
    intro hm
    by_cases m0 : m = 0
    · rw [m0]; exact Cp.lt_irrefl _
    · exact Cp.le_trans (ih ((m - 1) / 2) (by omega) (by omega)) (h m (by omega) hm)

set_option maxRecDepth 100000 in
theorem popL_len (q : List Cp) : (popL q).length = q.length := by simp [popL, downL_len, swapQ_len]
set_option maxRecDepth 100000 in
theorem popL_last (q : List Cp) (h : 0 < q.length) : gq (popL q) (q.length - 1) = gq q 0 := by
  unfold popL
  rw [downL_past _ _ _ _ _ (by rw [swapQ_len]; omega) (Nat.le_refl _), gq_swap _ _ _ _ h (by omega), if_pos rfl]
set_option maxRecDepth 100000 in
theorem popL_perm (q : List Cp) (h : 0 < q.length) : (gq q 0 :: (popL q).take (q.length - 1)).Perm q := by
  have h1 : (popL q).Perm q := (downL_perm _ _ _ _ (by rw [swapQ_len]; omega)).trans (swapQ_perm q _ _ h (by omega))
  have hl := popL_len q
  have e : popL q = (popL q).take (q.length - 1) ++ [gq q 0] := by
    conv => lhs; rw [← List.take_append_drop (q.length - 1) (popL q)]
    congr 1
    rw [← popL_last q h]
    rw [List.drop_eq_getElem_cons (by omega), List.drop_eq_nil_of_le (by omega)]
    have hlt : q.length - 1 < (popL q).length := by omega
    simp [gq, List.getElem?_eq_getElem hlt]
  rw [e] at h1
  exact (List.perm_append_comm (l₁ := [gq q 0])).trans h1
set_option maxRecDepth 100000 in
theorem popL_heap (q : List Cp) (h : HeapN q q.length) (h0 : 0 < q.length) : HeapN ((popL q).take (q.length - 1)) (q.length - 1) := by
  have : HeapN (popL q) (q.length - 1) := by
    refine downL_heap _ _ _ _ (by omega) (by rw [swapQ_len]; omega) ?_ (by intros; omega)
    intro m m0 m1 hp
    rw [gq_swap _ _ _ _ h0 (by omega), gq_swap _ _ _ _ h0 (by omega), if_neg (by omega), if_neg (by omega), if_neg (by omega), if_neg (by omega)]
    exact h m m0 (by omega)
  intro m m0 m1
  rw [gq_take _ _ _ m1, gq_take _ _ _ (by omega)]
  exact this m m0 m1

end Go.Proofs.YthmndclmecnpmaaDoor.Nw
