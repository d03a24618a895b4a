/- Plain: items and inboxes; the law's model of an inbox. -/
import Derived.Test.YthmndclmecnpmaaDoorWords
namespace Go.Proofs.YthmndclmecnpmaaDoor

/-- An item. -/
structure It where
  n : Int
  t : ByteArray
def It.none_ : It := ⟨0, ByteArray.empty⟩
instance : Inhabited It := ⟨It.none_⟩
def It.cells (x : It) : List Value := [.int .i64 x.n, .string x.t]
def It.val (x : It) : Value := .agg #[.int .i64 x.n, .string x.t]

/-- The state of an inbox. -/
structure InS where
  taken : Nat
  held : Nat
  ring : Nat → Option It
def newIn (t : Nat) : InS := ⟨t, 0, fun _ => none⟩
def slotC : Option It → List Value
  | none => [.int .i64 0, .string ByteArray.empty, .bool false]
  | some x => [.int .i64 x.n, .string x.t, .bool true]
def ringL (r : Nat → Option It) (k : Nat) : List Value := (List.range k).flatMap fun i => slotC (r i)
def inL (S : InS) : List Value := .int .i64 S.taken :: .int .i64 S.held :: ringL S.ring 64
def InS.put (S : InS) (i : Nat) (v : Option It) : InS := { S with ring := fun j => if j = i then v else S.ring j }

theorem slotC_len (o : Option It) : (slotC o).length = 3 := by cases o <;> rfl
theorem ringL_succ (r : Nat → Option It) (k : Nat) : ringL r (k + 1) = ringL r k ++ slotC (r k) := by simp [ringL, List.range_succ]
theorem ringL_len (r : Nat → Option It) : ∀ k, (ringL r k).length = k * 3
  | 0 => rfl
  | k + 1 => by rw [ringL_succ, List.length_append, ringL_len r k, slotC_len]; omega
theorem ringL_get (r : Nat → Option It) : ∀ (k i t : Nat), i < k → t < 3 → (ringL r k)[i * 3 + t]? = (slotC (r i))[t]?
  | 0, _, _, h, _ => absurd h (by omega)
  | k + 1, i, t, h, ht => by
    rw [ringL_succ]
    by_cases hi : i < k
    · rw [List.getElem?_append_left (by rw [ringL_len]; omega)]
      exact ringL_get r k i t hi ht
    · obtain rfl : i = k := by omega
      rw [List.getElem?_append_right (by rw [ringL_len]; omega), ringL_len]
      congr 1
      omega
theorem ringL_congr (r r' : Nat → Option It) : ∀ k, (∀ i, i < k → r i = r' i) → ringL r k = ringL r' k
  | 0, _ => rfl
  | k + 1, h => by rw [ringL_succ, ringL_succ, ringL_congr r r' k (fun i hi => h i (by omega)), h k (by omega)]
theorem inL_len (S : InS) : (inL S).length = 194 := by simp [inL, ringL_len]
theorem inL_get (S : InS) (i t : Nat) (hi : i < 64) (ht : t < 3) : (inL S)[2 + i * 3 + t]? = (slotC (S.ring i))[t]? := by
  rw [show 2 + i * 3 + t = (i * 3 + t) + 1 + 1 by omega]
  unfold inL
  rw [List.getElem?_cons_succ, List.getElem?_cons_succ]
  exact ringL_get S.ring 64 i t hi ht

/-- Three cells of a list written. -/
def set3 (cs : List Value) (k : Nat) (a b c : Value) : List Value := ((cs.set k a).set (k + 1) b).set (k + 2) c
theorem set3_get_other (cs : List Value) (k m : Nat) (a b c : Value) (h : m < k ∨ k + 3 ≤ m) : (set3 cs k a b c)[m]? = cs[m]? := by
  unfold set3
  rw [List.getElem?_set_ne (by omega), List.getElem?_set_ne (by omega), List.getElem?_set_ne (by omega)]
theorem set3_get (cs : List Value) (k t : Nat) (a b c : Value) (ht : t < 3) (hk : k + 3 ≤ cs.length) : (set3 cs k a b c)[k + t]? = [a, b, c][t]? := by
  unfold set3
  rcases (show t = 0 ∨ t = 1 ∨ t = 2 from by omega) with rfl | rfl | rfl <;> simp [List.getElem?_set] <;> omega
theorem set3_len (cs : List Value) (k : Nat) (a b c : Value) : (set3 cs k a b c).length = cs.length := by simp [set3]
theorem inL_put (S : InS) (i : Nat) (hi : i < 64) (v : Option It) (a b c : Value) (hv : slotC v = [a, b, c]) : inL (S.put i v) = set3 (inL S) (2 + i * 3) a b c := by
  apply List.ext_getElem?
  intro m
  by_cases hm : m < 194
  · by_cases h2 : m < 2
    · rw [set3_get_other _ _ _ _ _ _ (by omega)]
      rcases (show m = 0 ∨ m = 1 from by omega) with rfl | rfl <;> rfl
    · have e : m = 2 + (m - 2) / 3 * 3 + (m - 2) % 3 := by omega
      have h1 : (m - 2) / 3 < 64 := by omega
      have h3 : (m - 2) % 3 < 3 := by omega
      rw [e, inL_get _ _ _ h1 h3]
      by_cases hd : (m - 2) / 3 = i
      · rw [hd, set3_get _ _ _ _ _ _ h3 (by rw [inL_len]; omega), ← hv]
        simp [InS.put]
      · rw [set3_get_other _ _ _ _ _ _ (by omega), inL_get _ _ _ h1 h3]
        simp [InS.put, hd]
  · rw [List.getElem?_eq_none (by rw [inL_len]; omega), List.getElem?_eq_none (by rw [set3_len, inL_len]; omega)]

/-- What Receive does. -/
def recvI (S : InS) (x : It) : Int × InS :=
  if x.n < 1 ∨ 1099511627776 < x.n then (2, S) else if 65536 < x.t.size then (5, S) else if x.n ≤ S.taken then (7, S) else if (S.taken : Int) + 64 < x.n then (39, S)
  else if (S.ring (x.n.toNat % 64)).isSome = true then (7, S) else (0, { S.put (x.n.toNat % 64) (some x) with held := S.held + 1 })
def nextI (S : InS) : Option It := S.ring ((S.taken + 1) % 64)
def tookI (S : InS) : InS := { S.put ((S.taken + 1) % 64) none with taken := S.taken + 1, held := S.held - 1 }

/-! The law's model. -/
structure MIn where
  taken : Nat
  l : List It
def MIn.idx (m : MIn) (n : Int) : Option Nat := m.l.findIdx? fun x => decide (x.n = n)
def recvM (m : MIn) (x : It) : Int × MIn :=
  if x.n < 1 ∨ 1099511627776 < x.n then (2, m) else if 65536 < x.t.size then (5, m) else if x.n ≤ m.taken ∨ (m.idx x.n).isSome = true then (7, m) else if (m.taken : Int) + 64 < x.n then (39, m)
  else (0, { m with l := m.l ++ [x] })
def takeM (m : MIn) : Option It × MIn :=
  match m.idx ((m.taken : Int) + 1) with
  | none => (none, m)
  | some k => (m.l[k]?, { taken := m.taken + 1, l := m.l.take k ++ m.l.drop (k + 1) })

structure InR (S : InS) (m : MIn) : Prop where
  taken : S.taken = m.taken
  held : S.held = m.l.length
  lo : ∀ x ∈ m.l, (m.taken : Int) < x.n ∧ x.n ≤ m.taken + 64
  nodup : m.l.Pairwise fun x y => x.n ≠ y.n
  yes : ∀ x ∈ m.l, S.ring (x.n.toNat % 64) = some x
  no : ∀ i, i < 64 → ∀ x, S.ring i = some x → x ∈ m.l ∧ x.n.toNat % 64 = i

theorem inR_new (t : Nat) : InR (newIn t) ⟨t, []⟩ := ⟨rfl, rfl, by simp, List.Pairwise.nil, by simp, by simp [newIn]⟩
theorem idx_some {m : MIn} {n : Int} : (m.idx n).isSome = true ↔ ∃ x ∈ m.l, x.n = n := by
  unfold MIn.idx
  rw [List.findIdx?_isSome, List.any_eq_true]
  simp
theorem nat_nodup_len : ∀ (k : Nat) (l : List Nat), l.Nodup → (∀ x ∈ l, x < k) → l.length ≤ k
  | 0, l, _, h => by
    cases l with
    | nil => simp
    | cons a l => have := h a (by simp); omega
  | k + 1, l, hn, h => by
    have h1 := nat_nodup_len k (l.erase k) (hn.erase k) (fun x hx => by
      have h2 := h x (List.mem_of_mem_erase hx)
      have h3 : x ≠ k := fun e => by subst e; exact (List.Nodup.not_mem_erase hn) hx
      omega)
    rw [List.length_erase] at h1
    split at h1 <;> omega
theorem inR_len {S : InS} {m : MIn} (h : InR S m) : m.l.length ≤ 64 := by
  have h1 : (m.l.map fun x => x.n.toNat - (m.taken + 1)).Nodup := by
    unfold List.Nodup
    rw [List.pairwise_map]
    refine List.Pairwise.imp_of_mem ?_ h.nodup
    intro a b ha hb hab
    have := h.lo a ha
    have := h.lo b hb
    omega
  have h2 := nat_nodup_len 64 _ h1 (fun x hx => by
    obtain ⟨y, hy, rfl⟩ := List.mem_map.1 hx
    have := h.lo y hy
    omega)
  simpa using h2
theorem inR_recv {S : InS} {m : MIn} (h : InR S m) (x : It) : (recvI S x).1 = (recvM m x).1 ∧ InR (recvI S x).2 (recvM m x).2 := by
  unfold recvI recvM
  by_cases c1 : x.n < 1 ∨ 1099511627776 < x.n
  · rw [if_pos c1, if_pos c1]; exact ⟨rfl, h⟩
  rw [if_neg c1, if_neg c1]
  by_cases c2 : 65536 < x.t.size
  · rw [if_pos c2, if_pos c2]; exact ⟨rfl, h⟩
  rw [if_neg c2, if_neg c2]
  by_cases c3 : x.n ≤ m.taken
  · rw [if_pos (by rw [h.taken]; exact c3), if_pos (.inl c3)]; exact ⟨rfl, h⟩
  rw [if_neg (by rw [h.taken]; exact c3)]
  by_cases c4 : (m.taken : Int) + 64 < x.n
  · rw [if_pos (by rw [h.taken]; exact c4), if_neg, if_pos c4]
    · exact ⟨rfl, h⟩
    · rintro (e | e)
      · exact c3 e
      · obtain ⟨y, hy, e⟩ := idx_some.1 e
        have := h.lo y hy
        omega
  rw [if_neg (by rw [h.taken]; exact c4)]
  by_cases c5 : (m.idx x.n).isSome = true
  · obtain ⟨y, hy, e⟩ := idx_some.1 c5
    have hr : (S.ring (x.n.toNat % 64)).isSome = true := by rw [← e, h.yes y hy]; rfl
    rw [if_pos hr, if_pos (show x.n ≤ (m.taken : Int) ∨ (m.idx x.n).isSome = true from .inr c5)]
    exact ⟨rfl, h⟩
  · have hnone : S.ring (x.n.toNat % 64) = none := by
      cases hr : S.ring (x.n.toNat % 64) with
      | none => rfl
      | some y =>
        obtain ⟨hy, e⟩ := h.no _ (Nat.mod_lt _ (by omega)) y hr
        have h1 := h.lo y hy
        exact absurd (idx_some.2 ⟨y, hy, by omega⟩) c5
    rw [if_neg (by rw [hnone]; simp), if_neg (by rintro (e | e); exact c3 e; exact c5 e), if_neg c4]
    refine ⟨rfl, h.taken, ?_, ?_, ?_, ?_, ?_⟩
    · simp only [List.length_append, List.length_singleton, h.held]
    · intro y hy
      rcases List.mem_append.1 hy with hy | hy
      · exact h.lo y hy
      · rw [List.mem_singleton] at hy; subst hy
        simp only []
        omega
    · rw [List.pairwise_append]
      refine ⟨h.nodup, by simp, fun y hy z hz e => ?_⟩
      rw [List.mem_singleton] at hz; subst hz
      exact c5 (idx_some.2 ⟨y, hy, e⟩)
    · intro y hy
      simp only [InS.put]
      rcases List.mem_append.1 hy with hy | hy
      · rw [if_neg]
        · exact h.yes y hy
        · intro e
          have := h.yes y hy
          rw [e, hnone] at this
          cases this
      · rw [List.mem_singleton] at hy; subst hy
        rw [if_pos rfl]
    · intro i hi y hy
      simp only [InS.put] at hy
      split at hy
      · rename_i e
        injection hy with hy
        subst hy
        exact ⟨by simp, e.symm⟩
      · obtain ⟨h1, h2⟩ := h.no i hi y hy
        exact ⟨List.mem_append_left _ h1, h2⟩
theorem inR_take {S : InS} {m : MIn} (h : InR S m) : nextI S = (takeM m).1 ∧ ((takeM m).1.isSome = true → InR (tookI S) (takeM m).2) ∧ ((takeM m).1 = none → (takeM m).2 = m) ∧ (∀ x, (takeM m).1 = some x → 1 ≤ S.held) := by
  unfold takeM
  cases hi : m.idx ((m.taken : Int) + 1) with
  | none =>
    have hn : nextI S = none := by
      unfold nextI
      cases hr : S.ring ((S.taken + 1) % 64) with
      | none => rfl
      | some y =>
        obtain ⟨hy, e⟩ := h.no _ (Nat.mod_lt _ (by omega)) y hr
        have h1 := h.lo y hy
        have h2 := h.taken
        have : (m.idx ((m.taken : Int) + 1)).isSome = true := idx_some.2 ⟨y, hy, by omega⟩
        rw [hi] at this
        cases this
    simp only []
    exact ⟨hn, fun x => absurd x (by simp), fun _ => trivial, fun x e => absurd e (by simp)⟩
  | some k =>
    have hi' := hi
    unfold MIn.idx at hi
    obtain ⟨hk, h1, h2⟩ := List.findIdx?_eq_some_iff_getElem.1 hi
    have hx : m.l[k]? = some m.l[k] := List.getElem?_eq_getElem hk
    have hmem : m.l[k] ∈ m.l := List.getElem_mem hk
    have hn : (m.l[k]).n = (m.taken : Int) + 1 := by simpa using h1
    have hring := h.yes _ hmem
    have hr2 : (m.l[k]).n.toNat % 64 = (S.taken + 1) % 64 := by rw [h.taken, hn]; omega
    rw [hr2] at hring
    have hsp : m.l = m.l.take k ++ m.l[k] :: m.l.drop (k + 1) := by rw [← List.drop_eq_getElem_cons hk, List.take_append_drop]
    have hnd := h.nodup
    rw [hsp, List.pairwise_append, List.pairwise_cons] at hnd
    obtain ⟨n1, ⟨n2, n3⟩, n4⟩ := hnd
    have hother : ∀ y, y ∈ m.l.take k ++ m.l.drop (k + 1) → y ∈ m.l ∧ y.n ≠ (m.taken : Int) + 1 := by
      intro y hy
      rcases List.mem_append.1 hy with hy | hy
      · refine ⟨List.mem_of_mem_take hy, fun e => ?_⟩
        exact n4 y hy m.l[k] (List.mem_cons_self ..) (by rw [e, hn])
      · refine ⟨List.mem_of_mem_drop hy, fun e => ?_⟩
        exact n2 y hy (by rw [e, hn])
    have hlen : (m.l.take k ++ m.l.drop (k + 1)).length + 1 = m.l.length := by
      rw [List.length_append, List.length_take, List.length_drop]
      omega
    refine ⟨?_, fun _ => ⟨?_, ?_, ?_, ?_, ?_, ?_⟩, fun e => ?_, fun _ _ => ?_⟩
    · simp only [hx]; exact hring
    · simp only [tookI]; rw [h.taken]
    · simp only [tookI]; rw [h.held]; omega
    · intro y hy
      obtain ⟨a, b⟩ := hother y hy
      have := h.lo y a
      simp only [Int.natCast_add, Int.natCast_one]
      omega
    · rw [List.pairwise_append]
      exact ⟨n1, n3, fun c hc d hd => n4 c hc d (List.mem_cons_of_mem _ hd)⟩
    · intro y hy
      obtain ⟨a, b⟩ := hother y hy
      have := h.lo y a
      simp only [tookI, InS.put]
      rw [if_neg]
      · exact h.yes y a
      · rw [h.taken]; omega
    · intro i hi y hy
      simp only [tookI, InS.put] at hy
      split at hy
      · cases hy
      · rename_i hne
        obtain ⟨a, b⟩ := h.no i hi y hy
        refine ⟨?_, b⟩
        rw [hsp] at a
        rcases List.mem_append.1 a with a | a
        · exact List.mem_append_left _ a
        · rcases List.mem_cons.1 a with a | a
          · subst a; exact absurd (b.symm.trans hr2) hne
          · exact List.mem_append_right _ a
    · simp only [hx] at e; cases e
    · rw [h.held]
      omega

end Go.Proofs.YthmndclmecnpmaaDoor
