/- Calendar, plain: what the reference's ParseSpan returns; it is what the program's returns. -/
import Derived.Test.YthkkjfofpoifiaaDoorCalSl
namespace Go.Proofs.YthkkjfofpoifiaaDoor

/-- The unit with which a text begins: its size and its bytes. -/
def unitOf : List UInt8 → Option (Nat × Nat)
  | [] => none
  | c :: r => if c = 109 ∧ r.head? = some 115 then some (1, 2) else if c = 100 then some (86400000, 1) else if c = 104 then some (3600000, 1) else if c = 109 then some (60000, 1) else if c = 115 then some (1000, 1) else none
/-- The digits with which a text begins, at most 13. -/
def dig13 (l : List UInt8) : Nat := ((l.take 13).takeWhile isDg).length
/-- One unit of the reference's ParseSpan. -/
def rStep (tot : Nat) (l : List UInt8) : Option (Nat × List UInt8) :=
  (unitOf (l.drop (dig13 l))).bind fun u => if 17592186044416 / u.1 < numL (l.take (dig13 l)) then none else some (tot + numL (l.take (dig13 l)) * u.1, l.drop (dig13 l + u.2))
def rLoop : Nat → Nat → List UInt8 → Option Nat
  | _, tot, [] => some tot
  | 0, _, _ :: _ => none
  | f + 1, tot, c :: l => (rStep tot (c :: l)).bind fun x => rLoop f x.1 x.2
theorem rLoop_nil (f tot : Nat) : rLoop f tot [] = some tot := by cases f <;> rfl
theorem rLoop_step (f tot : Nat) {l : List UInt8} (h : l ≠ []) : rLoop (f + 1) tot l = (rStep tot l).bind fun x => rLoop f x.1 x.2 := by
  cases l with
  | nil => exact absurd rfl h
  | cons c l => rfl

theorem unit_of_name {nm tail : List UInt8} {sz : Nat} (h : (nm, sz) ∈ unitsL) (ht : DgOr tail) : unitOf (nm ++ tail) = some (sz, nm.length) := by
  have hh : ¬ tail.head? = some 115 := by
    rcases ht with rfl | ⟨c, r, rfl, hc⟩
    · simp
    · intro e
      simp at e
      subst e
      exact absurd hc (by decide)
  simp [unitsL] at h
  rcases h with ⟨rfl, rfl⟩ | ⟨rfl, rfl⟩ | ⟨rfl, rfl⟩ | ⟨rfl, rfl⟩ | ⟨rfl, rfl⟩
  · simp [unitOf]
  · simp [unitOf]
  · simp [unitOf, hh]
  · simp [unitOf]
  · simp [unitOf]
theorem tw_take (k : Nat) : ∀ (p l : List UInt8), p.length ≤ k → (∀ c ∈ p, isDg c = true) → NoDg l → ((p ++ l).take k).takeWhile isDg = p := by
  intro p l hk hp hl
  rw [List.take_append, List.take_of_length_le hk]
  apply tw_app _ _ hp
  intro c r e
  cases l with
  | nil => simp at e
  | cons a l =>
    cases hh : k - p.length with
    | zero => rw [hh] at e; simp at e
    | succ j =>
      rw [hh, List.take_succ_cons] at e
      simp at e
      rw [← e.1]
      exact hl a l rfl
theorem rStep_hit {n : Nat} {nm tail : List UInt8} {sz : Nat} (h : (nm, sz) ∈ unitsL) (ht : DgOr tail) (hn : n < 1000000000) (tot : Nat) (hm : n ≤ 17592186044416 / sz) : rStep tot (Lib.decDigits n ++ (nm ++ tail)) = some (tot + n * sz, tail) := by
  have hnm := unit_names _ h
  have hl := dec_len n hn
  have hd : dig13 (Lib.decDigits n ++ (nm ++ tail)) = (Lib.decDigits n).length := by
    unfold dig13
    rw [tw_take 13 _ _ (by omega) (dec_dg n) (hnm.nodg tail)]
  unfold rStep
  rw [hd]
  simp only [List.drop_left, List.take_left]
  rw [unit_of_name h ht, dec_num]
  simp only [Option.bind_some]
  rw [if_neg (by omega)]
  congr 2
  rw [← List.drop_drop]
  simp

/-- A duration's text is read back. -/
theorem rLoop_span : ∀ (us : List (List UInt8 × Nat)) (t tot f : Nat), (∀ x ∈ us, x ∈ unitsL) → t ≤ 17592186044416 → (us = [] → t = 0) → (∀ x, us.getLast? = some x → x.2 = 1) → (∀ x, us.head? = some x → t / x.2 < 1000000000) → (∀ a b l, us = a :: b :: l → a.2 ≤ 1000000000) → us.Pairwise (fun a b => b.2 ≤ a.2) → (spanGo us t).length ≤ f →
    rLoop f tot (spanGo us t) = some (tot + t)
  | [], t, tot, f, _, _, h0, _, _, _, _, _ => by rw [h0 rfl]; exact rLoop_nil f tot
  | (nm, sz) :: r, t, tot, f, hin, ht, _, hlast, hhd, hbig, hpw, hf => by
    have hx := hin (nm, sz) (by simp)
    have hpos : 0 < sz := by
      simp [unitsL] at hx
      rcases hx with ⟨_, rfl⟩ | ⟨_, rfl⟩ | ⟨_, rfl⟩ | ⟨_, rfl⟩ | ⟨_, rfl⟩ <;> omega
    have hsz : sz ≤ 1000000000 := by
      simp [unitsL] at hx
      rcases hx with ⟨_, rfl⟩ | ⟨_, rfl⟩ | ⟨_, rfl⟩ | ⟨_, rfl⟩ | ⟨_, rfl⟩ <;> omega
    have hnil : ∀ u, u < sz → r = [] → u = 0 := fun u hu e => by
      subst e
      have := hlast (nm, sz) rfl
      simp at this
      omega
    have hrec : ∀ u, u < sz → u ≤ 17592186044416 → ∀ tt g, (spanGo r u).length ≤ g → rLoop g tt (spanGo r u) = some (tt + u) := fun u hu hu2 tt g hg => by
      refine rLoop_span r u tt g (fun x hx => hin x (by simp [hx])) hu2 (hnil u hu) (fun x hx => hlast x (by
        cases r with
        | nil => simp at hx
        | cons y ys => simpa using hx)) (fun x hx => ?_) (fun a b l e => ?_) (List.pairwise_cons.1 hpw).2 hg
      · have := Nat.div_le_self u x.2
        omega
      · have h1 := (List.pairwise_cons.1 hpw).1 a (by rw [e]; simp)
        simp only [] at h1
        omega
    rw [spanGo] at hf ⊢
    by_cases h0 : t / sz = 0
    · rw [if_pos h0] at hf ⊢
      have hlt : t < sz := by
        rcases Nat.div_eq_zero_iff.1 h0 with h | h
        · omega
        · exact h
      exact hrec t hlt ht tot f hf
    · rw [if_neg h0, List.append_assoc] at hf ⊢
      have hn := hhd (nm, sz) rfl
      simp only [] at hn
      obtain ⟨c, l, ec, _⟩ := dec_cons (t / sz)
      have hne : Lib.decDigits (t / sz) ++ (nm ++ spanGo r (t % sz)) ≠ [] := by rw [ec]; simp
      obtain ⟨g, rfl⟩ : ∃ g, f = g + 1 := ⟨f - 1, by
        rw [ec] at hf
        simp at hf
        omega⟩
      rw [rLoop_step _ _ hne, rStep_hit hx (span_dgor _ _) hn tot (Nat.div_le_div_right ht)]
      simp only [Option.bind_some]
      have h1 := Nat.div_add_mod t sz
      have hc : sz * (t / sz) = t / sz * sz := Nat.mul_comm _ _
      have hm : t % sz < sz := Nat.mod_lt _ hpos
      rw [hrec (t % sz) hm (by have := Nat.mod_le t sz; omega) _ _ (by
        rw [ec] at hf
        simp at hf
        omega)]
      congr 1
      omega
theorem rLoop_spanL (t f : Nat) (h : t ≤ 17592186044416) (hf : (spanL t).length ≤ f) : rLoop f 0 (spanL t) = some t := by
  unfold spanL at hf ⊢
  split
  · rename_i h0
    subst h0
    rw [if_pos rfl] at hf
    obtain ⟨g, rfl⟩ : ∃ g, f = g + 1 := ⟨f - 1, by simp at hf; omega⟩
    rw [rLoop_step _ _ (by simp)]
    have : rStep 0 [48, 115] = some (0, []) := by decide +kernel
    rw [this]
    exact rLoop_nil _ _
  · rename_i h0
    rw [if_neg h0] at hf
    have := rLoop_span unitsL t 0 f (fun _ h => h) h (fun e => by simp [unitsL] at e) (fun x hx => by simp [unitsL] at hx; rw [← hx]) (fun x hx => by
      simp [unitsL] at hx
      subst hx
      simp only []
      omega) (fun a b l e => by
      have : a = ([100], 86400000) := by simp [unitsL] at e; exact e.1.symm
      subst this
      simp) (by decide) hf
    rw [this, Nat.zero_add]

/-- What the reference's ParseSpan returns. -/
def refSp (l : List UInt8) : Int × Int :=
  if 32 < l.length then (0, 5) else
  match rLoop l.length 0 l with
  | none => (0, 13)
  | some t => if t ≤ 17592186044416 ∧ spanL t = l then ((t : Int), 0) else (0, 13)
theorem stepI_le {nm rest : List UInt8} {sz tot : Nat} {x : Nat × List UInt8} (ht : tot ≤ 17592186044416) (h : stepI nm sz tot rest = some x) : x.1 ≤ 17592186044416 := by
  unfold stepI at h
  simp only [] at h
  split at h
  · simp at h; rw [← h]; exact ht
  · split at h
    · simp at h
    · simp at h; rw [← h]; simp only []; omega
theorem loopI_le : ∀ (us : List (List UInt8 × Nat)) (tot : Nat) (rest : List UInt8) (x : Nat × List UInt8), tot ≤ 17592186044416 → loopI us tot rest = some x → x.1 ≤ 17592186044416
  | [], tot, rest, x, ht, h => by
    simp [loopI] at h
    rw [← h]
    exact ht
  | (nm, sz) :: r, tot, rest, x, ht, h => by
    rw [loopI] at h
    cases e : stepI nm sz tot rest with
    | none => rw [e] at h; simp at h
    | some y =>
      rw [e] at h
      exact loopI_le r y.1 y.2 x (stepI_le ht e) h
theorem refSp_cal (l : List UInt8) : refSp l = calSp l := by
  by_cases h32 : 32 < l.length
  · unfold refSp calSp
    rw [if_pos h32, if_pos h32]
  · by_cases hx : ∃ t, t ≤ 17592186044416 ∧ l = spanL t
    · obtain ⟨t, ht, e⟩ := hx
      rw [calSp_yes (by omega) ht e]
      unfold refSp
      rw [if_neg h32, e, rLoop_spanL t _ ht (Nat.le_refl _)]
      simp [ht]
    · have h1 : refSp l = (0, 13) := by
        unfold refSp
        rw [if_neg h32]
        cases rLoop l.length 0 l with
        | none => rfl
        | some t =>
          simp only []
          rw [if_neg]
          rintro ⟨a, b⟩
          exact hx ⟨t, a, b.symm⟩
      have h2 : calSp l = (0, 13) := by
        unfold calSp
        rw [if_neg h32]
        cases e : loopI unitsL 0 l with
        | none => rfl
        | some x =>
          simp only []
          rw [if_neg]
          rintro ⟨a, b⟩
          exact hx ⟨x.1, loopI_le unitsL 0 l x (by omega) e, b.symm⟩
      rw [h1, h2]
end Go.Proofs.YthkkjfofpoifiaaDoor
