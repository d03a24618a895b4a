/- Calendar, plain: numbers of a fixed width as texts. -/
import Derived.Lib.ItoaNum
import Derived.Lib.Repeat
import GoSem.Op.String
namespace Go.Proofs.YthkkjfofpoifiaaDoor

/-- The last k digits of u. -/
def dgs : Nat → Nat → List UInt8
  | _, 0 => []
  | u, k + 1 => dgs (u / 10) k ++ [UInt8.ofNat (48 + u % 10)]
theorem dgs_len : ∀ (k u : Nat), (dgs u k).length = k
  | 0, _ => rfl
  | k + 1, u => by rw [dgs, List.length_append, dgs_len]; rfl
theorem dgs_zero : ∀ k : Nat, dgs 0 k = List.replicate k 48
  | 0 => rfl
  | k + 1 => by rw [dgs, Nat.zero_div, dgs_zero, List.replicate_succ']; rfl
/-- A number with leading zeros. -/
theorem pad_dgs : ∀ (k u : Nat), u < 10 ^ (k + 1) → List.replicate (k + 1 - Lib.nDigits u) 48 ++ Lib.decDigits u = dgs u (k + 1) ∧ Lib.nDigits u ≤ k + 1
  | 0, u, h => by
    have h' : u < 10 := by simpa using h
    rw [Lib.nDigits_small h', Lib.decDigits, dif_pos h']
    simp [dgs, Nat.mod_eq_of_lt h']
  | k + 1, u, h => by
    by_cases h' : u < 10
    · rw [Lib.nDigits_small h', Lib.decDigits, dif_pos h', dgs, Nat.div_eq_of_lt h', dgs_zero, Nat.mod_eq_of_lt h']
      exact ⟨rfl, by omega⟩
    · obtain ⟨h1, h2⟩ := pad_dgs k (u / 10) (by rw [Nat.pow_succ] at h; omega)
      rw [Lib.nDigits_big h', Lib.decDigits, dif_neg h', dgs, ← h1, ← List.append_assoc]
      exact ⟨by rw [show k + 1 + 1 - (Lib.nDigits (u / 10) + 1) = k + 1 - Lib.nDigits (u / 10) by omega], by omega⟩

theorem ofNat_digit (u : Nat) (h : u < 10) : (UInt8.ofNat (48 + u)).toNat = 48 + u := by
  rw [UInt8.toNat_ofNat_of_lt' (show 48 + u < UInt8.size by simp [UInt8.size]; omega)]

/-- Whether a byte is a digit. -/
def isDg (c : UInt8) : Bool := decide (48 ≤ c.toNat) && decide (c.toNat ≤ 57)
/-- The number of digits. -/
def numL (l : List UInt8) : Nat := l.foldl (fun n c => 10 * n + (c.toNat - 48)) 0
theorem numL_snoc (l : List UInt8) (c : UInt8) : numL (l ++ [c]) = 10 * numL l + (c.toNat - 48) := by simp [numL]
theorem numL_nil : numL [] = 0 := rfl
theorem dgs_dg : ∀ (k u : Nat), ∀ c ∈ dgs u k, isDg c = true
  | 0, _, c, h => by simp [dgs] at h
  | k + 1, u, c, h => by
    rw [dgs, List.mem_append] at h
    rcases h with h | h
    · exact dgs_dg k _ c h
    · rw [List.mem_singleton] at h
      subst h
      unfold isDg
      rw [ofNat_digit _ (by omega)]
      simp only [Bool.and_eq_true, decide_eq_true_eq]
      omega
theorem numL_dgs : ∀ (k u : Nat), u < 10 ^ k → numL (dgs u k) = u
  | 0, u, h => by simp at h; subst h; rfl
  | k + 1, u, h => by
    rw [dgs, numL_snoc, numL_dgs k (u / 10) (by rw [Nat.pow_succ] at h; omega), ofNat_digit _ (by omega)]
    omega
theorem numL_lt : ∀ (k : Nat) (l : List UInt8), l.length = k → (∀ c ∈ l, isDg c = true) → numL l < 10 ^ k
  | 0, l, h, _ => by rw [List.eq_nil_of_length_eq_zero h]; simp [numL]
  | k + 1, l, h, hd => by
    obtain ⟨a, c, rfl⟩ : ∃ a c, l = a ++ [c] := by
      obtain ⟨a, c, e⟩ := (List.eq_nil_or_concat l).resolve_left (by intro e; subst e; simp at h)
      exact ⟨a, c, by rw [e, List.concat_eq_append]⟩
    have ih := numL_lt k a (by simpa using h) (fun x hx => hd x (by simp [hx]))
    have hc := hd c (by simp)
    unfold isDg at hc
    simp only [Bool.and_eq_true, decide_eq_true_eq] at hc
    rw [numL_snoc, Nat.pow_succ]
    omega
theorem dgs_numL : ∀ (k : Nat) (l : List UInt8), l.length = k → (∀ c ∈ l, isDg c = true) → dgs (numL l) k = l
  | 0, l, h, _ => by rw [List.eq_nil_of_length_eq_zero h]; rfl
  | k + 1, l, h, hd => by
    obtain ⟨a, c, rfl⟩ : ∃ a c, l = a ++ [c] := by
      obtain ⟨a, c, e⟩ := (List.eq_nil_or_concat l).resolve_left (by intro e; subst e; simp at h)
      exact ⟨a, c, by rw [e, List.concat_eq_append]⟩
    have ih := dgs_numL k a (by simpa using h) (fun x hx => hd x (by simp [hx]))
    have hc := hd c (by simp)
    unfold isDg at hc
    simp only [Bool.and_eq_true, decide_eq_true_eq] at hc
    rw [numL_snoc, dgs, show (10 * numL a + (c.toNat - 48)) / 10 = numL a by omega, ih, show 48 + (10 * numL a + (c.toNat - 48)) % 10 = c.toNat by omega]
    simp

/-! The order of texts. -/
theorem less_irrefl : ∀ x : List UInt8, Op.bytesLess x x = false
  | [] => rfl
  | a :: x => by rw [Op.bytesLess]; simp [less_irrefl x]
theorem less_pre : ∀ (p x y : List UInt8), Op.bytesLess (p ++ x) (p ++ y) = Op.bytesLess x y
  | [], _, _ => rfl
  | a :: p, x, y => by
    rw [List.cons_append, List.cons_append, Op.bytesLess, less_pre p x y]
    simp
theorem less_post : ∀ (x y p q : List UInt8), x.length = y.length → Op.bytesLess x y = true → Op.bytesLess (x ++ p) (y ++ q) = true
  | [], [], _, _, _, h => by simp [Op.bytesLess] at h
  | [], _ :: _, _, _, hl, _ => by simp at hl
  | _ :: _, [], _, _, hl, _ => by simp at hl
  | a :: x, b :: y, p, q, hl, h => by
    rw [Op.bytesLess] at h
    rw [List.cons_append, List.cons_append, Op.bytesLess]
    simp only [Bool.or_eq_true, Bool.and_eq_true] at h ⊢
    rcases h with h | ⟨h1, h2⟩
    · exact .inl h
    · exact .inr ⟨h1, less_post x y p q (by simpa using hl) h2⟩
theorem less_dgs : ∀ (k u v : Nat), u < v → v < 10 ^ k → Op.bytesLess (dgs u k) (dgs v k) = true
  | 0, u, v, h, hv => by simp at hv; omega
  | k + 1, u, v, h, hv => by
    rw [dgs, dgs]
    rcases Nat.lt_or_ge (u / 10) (v / 10) with h1 | h1
    · exact less_post _ _ _ _ (by rw [dgs_len, dgs_len]) (less_dgs k _ _ h1 (by rw [Nat.pow_succ] at hv; omega))
    · have e : u / 10 = v / 10 := by omega
      rw [e, less_pre]
      rw [Op.bytesLess]
      simp only [Bool.or_eq_true, decide_eq_true_eq]
      left
      rw [UInt8.lt_iff_toNat_lt, ofNat_digit _ (by omega), ofNat_digit _ (by omega)]
      omega

/-- The text of a date. -/
def dateL (y m d : Nat) : List UInt8 := dgs y 4 ++ 45 :: (dgs m 2 ++ 45 :: dgs d 2)
theorem dateL_len (y m d : Nat) : (dateL y m d).length = 10 := by simp [dateL, dgs_len]
theorem less_date {y m d y' m' d' : Nat} (h : y < y' ∨ (y = y' ∧ (m < m' ∨ (m = m' ∧ d < d')))) (hy : y' < 10000) (hm : m' < 100) (hd : d' < 100) : Op.bytesLess (dateL y m d) (dateL y' m' d') = true := by
  unfold dateL
  rcases h with h | ⟨rfl, h⟩
  · exact less_post _ _ _ _ (by rw [dgs_len, dgs_len]) (less_dgs 4 _ _ h (by omega))
  · rw [less_pre]
    have e : ∀ (a b : List UInt8), Op.bytesLess (45 :: a) (45 :: b) = Op.bytesLess a b := fun a b => less_pre [45] a b
    rw [e]
    rcases h with h | ⟨rfl, h⟩
    · exact less_post _ _ _ _ (by rw [dgs_len, dgs_len]) (less_dgs 2 _ _ h (by omega))
    · rw [less_pre, e]
      exact less_dgs 2 _ _ h (by omega)

end Go.Proofs.YthkkjfofpoifiaaDoor
