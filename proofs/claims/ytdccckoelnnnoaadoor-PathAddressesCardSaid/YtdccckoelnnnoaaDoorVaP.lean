/- Values: trees, and how they lie in memory. -/
import Derived.Test.YtdccckoelnnnoaaDoorTab
namespace Go.Proofs.YtdccckoelnnnoaaDoor
open Go.RowKit

/-- A value as a tree. -/
inductive VT where
  | mk (k i s : Int) (t : ByteArray) (l : List VT) (f : List (ByteArray × VT))
namespace VT
def k : VT → Int | .mk k _ _ _ _ _ => k
def i : VT → Int | .mk _ i _ _ _ _ => i
def s : VT → Int | .mk _ _ s _ _ _ => s
def t : VT → ByteArray | .mk _ _ _ t _ _ => t
def l : VT → List VT | .mk _ _ _ _ l _ => l
def f : VT → List (ByteArray × VT) | .mk _ _ _ _ _ f => f
end VT
theorem VT.ext {a b : VT} (h1 : a.k = b.k) (h2 : a.i = b.i) (h3 : a.s = b.s) (h4 : a.t = b.t) (h5 : a.l = b.l) (h6 : a.f = b.f) : a = b := by
  obtain ⟨k, i, s, t, l, f⟩ := a
  obtain ⟨k', i', s', t', l', f'⟩ := b
  simp only [VT.k, VT.i, VT.s, VT.t, VT.l, VT.f] at *
  subst h1 h2 h3 h4 h5 h6
  rfl
def VT.zero : VT := .mk 0 0 0 ⟨#[]⟩ [] []
mutual
/-- The bytes of the longest list (of values or of fields) that lies anywhere in a tree. -/
def VT.size : VT → Nat
  | .mk _ _ _ _ l f => max (sizeL l) (sizeF f)
def sizeL : List VT → Nat
  | [] => 0
  | x :: l => max (max x.size (88 * (l.length + 1))) (sizeL l)
def sizeF : List (ByteArray × VT) → Nat
  | [] => 0
  | (_, x) :: l => max (max x.size (104 * (l.length + 1))) (sizeF l)
end
theorem sizeL_len : ∀ l : List VT, 88 * l.length ≤ sizeL l
  | [] => Nat.le_refl _
  | x :: l => by simp only [List.length_cons, sizeL]; omega
theorem sizeF_len : ∀ l : List (ByteArray × VT), 104 * l.length ≤ sizeF l
  | [] => Nat.le_refl _
  | (_, x) :: l => by simp only [List.length_cons, sizeF]; omega
theorem sizeL_mem {x : VT} : ∀ {l : List VT} {j : Nat}, l[j]? = some x → x.size ≤ sizeL l
  | [], j, h => by simp at h
  | y :: l, 0, h => by simp at h; subst h; simp only [sizeL]; omega
  | y :: l, j + 1, h => by have := sizeL_mem (l := l) (j := j) (by simpa using h); simp only [sizeL]; omega
theorem sizeF_mem {x : ByteArray × VT} : ∀ {l : List (ByteArray × VT)} {j : Nat}, l[j]? = some x → x.2.size ≤ sizeF l
  | [], j, h => by simp at h
  | y :: l, 0, h => by simp at h; subst h; simp only [sizeF]; omega
  | y :: l, j + 1, h => by have := sizeF_mem (l := l) (j := j) (by simpa using h); simp only [sizeF]; omega
/-- A list is as small as its length and its members. -/
theorem sizeL_le {B : Nat} : ∀ {l : List VT}, 88 * l.length ≤ B → (∀ x ∈ l, x.size ≤ B) → sizeL l ≤ B
  | [], _, _ => Nat.zero_le _
  | x :: l, h, hm => by
    have h1 := hm x (by simp)
    have h2 := sizeL_le (l := l) (B := B) (by simp only [List.length_cons] at h; omega) (fun y hy => hm y (by simp [hy]))
    simp only [List.length_cons] at h
    simp only [sizeL]
    omega
theorem sizeF_le {B : Nat} : ∀ {l : List (ByteArray × VT)}, 104 * l.length ≤ B → (∀ x ∈ l, x.2.size ≤ B) → sizeF l ≤ B
  | [], _, _ => Nat.zero_le _
  | x :: l, h, hm => by
    have h1 := hm x (by simp)
    have h2 := sizeF_le (l := l) (B := B) (by simp only [List.length_cons] at h; omega) (fun y hy => hm y (by simp [hy]))
    simp only [List.length_cons] at h
    simp only [sizeF]
    omega
theorem sizeL_in {x : VT} {l : List VT} (h : x ∈ l) : x.size ≤ sizeL l := by
  obtain ⟨j, hj⟩ := List.mem_iff_getElem?.1 h
  exact sizeL_mem hj
theorem sizeF_in {x : ByteArray × VT} {l : List (ByteArray × VT)} (h : x ∈ l) : x.2.size ≤ sizeF l := by
  obtain ⟨j, hj⟩ := List.mem_iff_getElem?.1 h
  exact sizeF_mem hj
mutual
def VT.depth : VT → Nat
  | .mk _ _ _ _ l f => max (depthL l) (depthF f) + 1
def depthL : List VT → Nat
  | [] => 0
  | x :: l => max x.depth (depthL l)
def depthF : List (ByteArray × VT) → Nat
  | [] => 0
  | (_, x) :: l => max x.depth (depthF l)
end
theorem depthL_app (l m : List VT) : depthL (l ++ m) = max (depthL l) (depthL m) := by
  induction l with
  | nil => simp [depthL]
  | cons x l ih => simp only [List.cons_append, depthL, ih]; omega
theorem depthF_app (l m : List (ByteArray × VT)) : depthF (l ++ m) = max (depthF l) (depthF m) := by
  induction l with
  | nil => simp [depthF]
  | cons x l ih => simp only [List.cons_append, depthF, ih]; omega
theorem take_next {α : Type} {l : List α} {j : Nat} {x : α} (h : l[j]? = some x) : l.take (j + 1) = l.take j ++ [x] := by
  have hj : j < l.length := (List.getElem?_eq_some_iff.1 h).1
  rw [List.take_succ_eq_append_getElem hj]
  rw [List.getElem?_eq_getElem hj] at h
  rw [Option.some.inj h]

/-- The six cells of a value. -/
structure VC where
  k : Int
  i : Int
  s : Int
  t : ByteArray
  la : Option Addr
  ln : Nat
  lc : Nat
  fa : Option Addr
  fn : Nat
  fc : Nat
def VC.vals (v : VC) : List Value := [.int .i64 v.k, .int .i64 v.i, .int .i64 v.s, .string v.t, .slice v.la v.ln v.lc, .slice v.fa v.fn v.fc]
/-- The seven cells of a field. -/
structure FC where
  n : ByteArray
  v : VC
def FC.vals (f : FC) : List Value := .string f.n :: f.v.vals
/-- Cells of a list, k cells an element. -/
def cells {α : Type} (g : α → List Value) (l : List α) : List Value := l.flatMap g
section
variable {α : Type} {g : α → List Value} {k : Nat} (hg : ∀ a, (g a).length = k)
include hg
theorem cells_length (l : List α) : (cells g l).length = l.length * k := by
  induction l with
  | nil => simp [cells]
  | cons o l ih => simp only [cells, List.flatMap_cons, List.length_append] at *; rw [ih, hg, List.length_cons, Nat.succ_mul]; omega
theorem cells_get : ∀ (l : List α) (i : Nat) (o : α), l[i]? = some o → ∀ (j : Nat) (u : Value), (g o)[j]? = some u → (cells g l)[i * k + j]? = some u
  | [], i, o, h => by simp at h
  | x :: l, 0, o, h => fun j u hu => by
    simp only [List.getElem?_cons_zero, Option.some.injEq] at h
    subst h
    have hj : j < (g x).length := (List.getElem?_eq_some_iff.1 hu).1
    simp only [cells, List.flatMap_cons]
    rw [Nat.zero_mul, Nat.zero_add, List.getElem?_append_left hj, hu]
  | x :: l, i + 1, o, h => fun j u hu => by
    have ih := cells_get l i o (by simpa using h) j u hu
    simp only [cells, List.flatMap_cons] at *
    rw [List.getElem?_append_right (by rw [hg, Nat.succ_mul]; omega), ← ih, hg]
    congr 1
    rw [Nat.succ_mul]
    omega
end
theorem cells_append {α : Type} (g : α → List Value) (l m : List α) : cells g (l ++ m) = cells g l ++ cells g m := by simp [cells]
theorem vlen (v : VC) : v.vals.length = 6 := rfl
theorem flen (f : FC) : f.vals.length = 7 := rfl
theorem add_offk (ad : Addr) (x k : Nat) (hk : 0 < k) : ad.add (x + k) = ⟨(ad.add x).block, (ad.add x).off + k, none⟩ := by
  unfold Addr.add
  split <;> split <;> simp_all <;> omega

/-- A list of things, k cells each, that lies in blocks of S. -/
structure RowA {α : Type} (g : α → List Value) (k : Nat) (w : World) (S : Nat → Prop) (A : Option Addr) (n : Nat) (L : List α) : Prop where
  rd : Reads w w.heap.size k A n (cells g L)
  len : L.length = n
  blk : 0 < n → ∀ ad, A = some ad → S ad.block
section
variable {α : Type} {g : α → List Value} {k : Nat} {w w' : World} {S S' F : Nat → Prop} {A : Option Addr} {ad : Addr} {n i : Nat} {L : List α} {o : α}
theorem RowA.keep (h : RowA g k w S A n L) (ho : Only F w w') (hS : ∀ b, S b → ¬ F b) : RowA g k w' S A n L := by
  refine ⟨⟨h.rd.1, fun hn => ?_⟩, h.len, h.blk⟩
  obtain ⟨ad, e, hlt, hc⟩ := h.rd.2 hn
  refine ⟨ad, e, Nat.lt_of_lt_of_le hlt ho.size, fun j u hu => ?_⟩
  have hb : (ad.add j).block = ad.block := by unfold Addr.add; split <;> rfl
  rw [ho.cell (by rw [hb]; exact hlt) (by rw [hb]; exact hS _ (h.blk hn ad e))]
  exact hc j u hu
theorem RowA.same (h : RowA g k w S A n L) (ho : Only Nobody w w') : RowA g k w' S A n L := h.keep ho (fun _ _ x => x)
theorem RowA.mono (h : RowA g k w S A n L) (hS : ∀ b, b < w.heap.size → S b → S' b) : RowA g k w S' A n L := ⟨h.rd, h.len, fun hn ad e => by
  obtain ⟨ad', e', hlt, _⟩ := h.rd.2 hn
  rw [e] at e'
  injection e' with e'
  subst e'
  exact hS _ hlt (h.blk hn ad e)⟩
theorem RowA.some_ (h : RowA g k w S A n L) (hn : 0 < n) : ∃ ad, A = some ad := by
  obtain ⟨ad, e, _⟩ := h.rd.2 hn
  exact ⟨ad, e⟩
theorem RowA.get (h : RowA g k w S A n L) (hi : i < n) : ∃ o, L[i]? = some o := ⟨_, List.getElem?_eq_getElem (by rw [h.len]; exact hi)⟩
theorem RowA.cell (hg : ∀ a, (g a).length = k) (h : RowA g k w S (some ad) n L) (hi : L[i]? = some o) {j : Nat} {u : Value} (hu : (g o)[j]? = some u) : w.cell? (ad.add (i * k + j)) = some u := by
  have hl : i < L.length := (List.getElem?_eq_some_iff.1 hi).1
  have hn := h.len
  obtain ⟨ad', e, _, hc⟩ := h.rd.2 (by omega)
  injection e with e
  subst e
  exact hc _ _ (cells_get hg L i o hi j u hu)
theorem RowA.lt (h : RowA g k w S (some ad) n L) (hn : 0 < n) : ad.block < w.heap.size := by
  obtain ⟨ad', e, hlt, _⟩ := h.rd.2 hn
  injection e with e
  rw [e]; exact hlt
theorem RowA.nil_ : RowA g k w S none 0 [] := ⟨Reads.none_, rfl, fun h => absurd h (by omega)⟩
theorem RowA.zero (A : Option Addr) : RowA g k w S A 0 [] := ⟨⟨by simp [cells], fun h => absurd h (by omega)⟩, rfl, fun h => absurd h (by omega)⟩
end
theorem RowA.of_own {α : Type} {g : α → List Value} {k : Nat} (hg : ∀ a, (g a).length = k) (hk : 0 < k) {w : World} {base : Nat} {e : TypeId} {A : Option Addr} {n c : Nat} {L : List α} (h : w.ownsRow base e k (.slice A n c) n (cells g L)) : RowA g k w (fun b => base ≤ b ∧ Value.ownBlock (.slice A n c) = some b) A n L := by
  refine ⟨Reads.of_own h, ?_, ?_⟩
  · have := h.1
    rw [cells_length hg] at this
    exact Nat.eq_of_mul_eq_mul_right hk this
  · intro hn ad e
    subst e
    rcases h.2 with ⟨h1, h2⟩ | ⟨g, cap, cur, hv, hb, _⟩
    · omega
    · injection hv with h1 _ _
      injection h1 with h1
      subst h1
      exact ⟨hb, rfl⟩

/-- Two lists stand in a relation, place by place. -/
def All2 {α β : Type} (R : α → β → Prop) (A : List α) (B : List β) : Prop := A.length = B.length ∧ ∀ (j : Nat) a b, A[j]? = some a → B[j]? = some b → R a b
section
variable {α β : Type} {R R' : α → β → Prop} {A A' : List α} {B B' : List β}
theorem All2.nil_ : All2 R ([] : List α) ([] : List β) := ⟨rfl, fun j a b h => by simp at h⟩
theorem All2.imp (h : All2 R A B) (hi : ∀ a b, R a b → R' a b) : All2 R' A B := ⟨h.1, fun j a b h1 h2 => hi a b (h.2 j a b h1 h2)⟩
theorem All2.app (h : All2 R A B) (h' : All2 R A' B') : All2 R (A ++ A') (B ++ B') := by
  refine ⟨by simp [h.1, h'.1], fun j a b h1 h2 => ?_⟩
  by_cases hj : j < A.length
  · rw [List.getElem?_append_left hj] at h1
    rw [List.getElem?_append_left (by rw [← h.1]; exact hj)] at h2
    exact h.2 j a b h1 h2
  · rw [List.getElem?_append_right (by omega)] at h1
    rw [List.getElem?_append_right (by rw [← h.1]; omega), ← h.1] at h2
    exact h'.2 _ a b h1 h2
theorem All2.one {a : α} {b : β} (h : R a b) : All2 R [a] [b] := ⟨rfl, fun j x y h1 h2 => by
  cases j with
  | zero => simp at h1 h2; subst h1 h2; exact h
  | succ j => simp at h1⟩
theorem All2.get (h : All2 R A B) {j : Nat} {a : α} (ha : A[j]? = some a) : ∃ b, B[j]? = some b ∧ R a b := by
  have hj : j < A.length := (List.getElem?_eq_some_iff.1 ha).1
  have hb : B[j]? = some (B[j]'(by rw [← h.1]; exact hj)) := List.getElem?_eq_getElem _
  exact ⟨_, hb, h.2 j _ _ ha hb⟩
theorem All2.get' (h : All2 R A B) {j : Nat} {b : β} (hb : B[j]? = some b) : ∃ a, A[j]? = some a ∧ R a b := by
  have hj : j < B.length := (List.getElem?_eq_some_iff.1 hb).1
  have ha : A[j]? = some (A[j]'(by rw [h.1]; exact hj)) := List.getElem?_eq_getElem _
  exact ⟨_, ha, h.2 j _ _ ha hb⟩
end

/-- The cells v read as the tree, in n levels at most, through blocks of S. -/
def VAt (w : World) (S : Nat → Prop) : Nat → VC → VT → Prop
  | 0, _, _ => False
  | n + 1, v, T => (v.k = T.k ∧ v.i = T.i ∧ v.s = T.s ∧ v.t = T.t ∧ v.ln ≤ v.lc ∧ v.fn ≤ v.fc) ∧
      (∃ V : List VC, RowA VC.vals 6 w S v.la v.ln V ∧ All2 (VAt w S n) V T.l) ∧
      (∃ F : List FC, RowA FC.vals 7 w S v.fa v.fn F ∧ All2 (fun c x => c.n = x.1 ∧ VAt w S n c.v x.2) F T.f)
section
variable {w w' : World} {S S' F : Nat → Prop} {n m : Nat} {v : VC} {T : VT}
theorem VAt.keep : ∀ {n : Nat} {v : VC} {T : VT}, VAt w S n v T → Only F w w' → (∀ b, S b → ¬ F b) → VAt w' S n v T
  | 0, _, _, h, _, _ => h.elim
  | _ + 1, _, _, ⟨h1, ⟨V, hV, hA⟩, ⟨G, hG, hB⟩⟩, ho, hS =>
    ⟨h1, ⟨V, hV.keep ho hS, hA.imp fun _ _ h => h.keep ho hS⟩, ⟨G, hG.keep ho hS, hB.imp fun _ _ h => ⟨h.1, h.2.keep ho hS⟩⟩⟩
theorem VAt.same (h : VAt w S n v T) (ho : Only Nobody w w') : VAt w' S n v T := h.keep ho (fun _ _ x => x)
theorem VAt.mono : ∀ {n : Nat} {v : VC} {T : VT}, VAt w S n v T → (∀ b, b < w.heap.size → S b → S' b) → VAt w S' n v T
  | 0, _, _, h, _ => h.elim
  | _ + 1, _, _, ⟨h1, ⟨V, hV, hA⟩, ⟨G, hG, hB⟩⟩, hS =>
    ⟨h1, ⟨V, hV.mono hS, hA.imp fun _ _ h => h.mono hS⟩, ⟨G, hG.mono hS, hB.imp fun _ _ h => ⟨h.1, h.2.mono hS⟩⟩⟩
theorem VAt.up : ∀ {n : Nat} {v : VC} {T : VT}, VAt w S n v T → VAt w S (n + 1) v T
  | 0, _, _, h => h.elim
  | _ + 1, _, _, ⟨h1, ⟨V, hV, hA⟩, ⟨G, hG, hB⟩⟩ =>
    ⟨h1, ⟨V, hV, hA.imp fun _ _ h => h.up⟩, ⟨G, hG, hB.imp fun _ _ h => ⟨h.1, h.2.up⟩⟩⟩
theorem VAt.le (h : VAt w S n v T) : ∀ {m : Nat}, n ≤ m → VAt w S m v T
  | 0, hm => by cases n with
    | zero => exact h
    | succ n => omega
  | m + 1, hm => by
    by_cases e : n = m + 1
    · subst e; exact h
    · exact (VAt.le h (m := m) (by omega)).up
end
def Any_ : Nat → Prop := fun _ => True
/-- Every block is meant. -/
theorem VAt.any {w : World} {S : Nat → Prop} {n : Nat} {v : VC} {T : VT} (h : VAt w S n v T) : VAt w Any_ n v T := h.mono fun _ _ _ => trivial
end Go.Proofs.YtdccckoelnnnoaaDoor
