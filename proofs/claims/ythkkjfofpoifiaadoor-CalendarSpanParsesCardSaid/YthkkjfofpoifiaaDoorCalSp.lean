/- Calendar, plain: the texts of durations are read back by the program's ParseSpan. -/
import Derived.Test.YthkkjfofpoifiaaDoorCalU
import Derived.Lib.SlTrimSet
namespace Go.Proofs.YthkkjfofpoifiaaDoor

def dig10 : List UInt8 := [48, 49, 50, 51, 52, 53, 54, 55, 56, 57]
theorem dig10_isDg (c : UInt8) : dig10.contains c = isDg c := by
  have h : ∀ n : Fin 256, dig10.contains (UInt8.ofNat n.val) = isDg (UInt8.ofNat n.val) := by decide +kernel
  have := h ⟨c.toNat, c.toNat_lt⟩
  simpa using this
theorem dec_dg (u : Nat) : ∀ c ∈ Lib.decDigits u, isDg c = true := by
  induction u using Nat.strongRecOn with
  | _ u ih =>
    rw [Lib.decDigits]
    split
    · rename_i h
      intro c hc
      rw [List.mem_singleton] at hc
      subst hc
      unfold isDg
      rw [ofNat_digit u h]
      simp
      omega
    · rename_i h
      intro c hc
      rcases List.mem_append.1 hc with hc | hc
      · exact ih (u / 10) (by omega) c hc
      · rw [List.mem_singleton] at hc
        subst hc
        unfold isDg
        rw [ofNat_digit (u % 10) (by omega)]
        simp
        omega
theorem dec_num (u : Nat) : numL (Lib.decDigits u) = u := by
  induction u using Nat.strongRecOn with
  | _ u ih =>
    rw [Lib.decDigits]
    split
    · rename_i h
      have := numL_snoc [] (UInt8.ofNat (48 + u))
      rw [List.nil_append, ofNat_digit u h, numL_nil] at this
      omega
    · rename_i h
      rw [numL_snoc, ih (u / 10) (by omega), ofNat_digit (u % 10) (by omega)]
      omega
theorem dec_len (u : Nat) (h : u < 1000000000) : 1 ≤ (Lib.decDigits u).length ∧ (Lib.decDigits u).length ≤ 9 := by
  rw [Lib.decDigits_length]
  refine ⟨?_, (pad_dgs 8 u (by omega)).2⟩
  rw [← Lib.decDigits_length, Lib.decDigits]
  split <;> simp
theorem dec_cons (u : Nat) : ∃ c l, Lib.decDigits u = c :: l ∧ isDg c = true := by
  cases e : Lib.decDigits u with
  | nil =>
    rw [Lib.decDigits] at e
    split at e <;> simp at e
  | cons c l => exact ⟨c, l, rfl, dec_dg u c (by rw [e]; simp)⟩

/-- A rest that no digit begins. -/
def NoDg (l : List UInt8) : Prop := ∀ c r, l = c :: r → isDg c = false
/-- A rest that is empty or begins with a digit. -/
def DgOr (l : List UInt8) : Prop := l = [] ∨ ∃ c r, l = c :: r ∧ isDg c = true
theorem tw_app : ∀ (p l : List UInt8), (∀ c ∈ p, isDg c = true) → NoDg l → (p ++ l).takeWhile isDg = p
  | [], l, _, h => by
    cases l with
    | nil => rfl
    | cons c r => simp [h c r rfl]
  | c :: p, l, hp, h => by
    rw [List.cons_append, List.takeWhile_cons, hp c (by simp), tw_app p l (fun x hx => hp x (by simp [hx])) h]
    rfl

/-- The digits at the end of two characters cut off. -/
def trimR (l : List UInt8) : List UInt8 := (l.reverse.dropWhile isDg).reverse
/-- The greatest duration. -/
def maxT : Nat := 17592186044416
/-- One unit of the program's ParseSpan. -/
def stepI (nm : List UInt8) (sz tot : Nat) (rest : List UInt8) : Option (Nat × List UInt8) :=
  let d := (rest.takeWhile isDg).length
  if d = 0 ∨ 9 < d ∨ ¬ trimR ((rest.drop d).take 2) = nm then some (tot, rest)
  else if 17592186044416 < tot + numL (rest.take d) * sz then none else some (tot + numL (rest.take d) * sz, rest.drop (d + nm.length))
def loopI : List (List UInt8 × Nat) → Nat → List UInt8 → Option (Nat × List UInt8)
  | [], tot, rest => some (tot, rest)
  | (nm, sz) :: r, tot, rest => (stepI nm sz tot rest).bind fun x => loopI r x.1 x.2

theorem span_head : ∀ (us : List (List UInt8 × Nat)) (t : Nat), spanGo us t = [] ∨ ∃ nm sz n tail, (nm, sz) ∈ us ∧ 0 < n ∧ n ≤ t ∧ spanGo us t = Lib.decDigits n ++ (nm ++ tail) ∧ DgOr tail
  | [], _ => .inl rfl
  | (nm, sz) :: r, t => by
    rw [spanGo]
    have hor : ∀ u, DgOr (spanGo r u) := fun u => by
      rcases span_head r u with h | ⟨nm', sz', n, tail, _, _, _, h, _⟩
      · exact .inl h
      · obtain ⟨c, l, e, hc⟩ := dec_cons n
        exact .inr ⟨c, l ++ (nm' ++ tail), by rw [h, e]; rfl, hc⟩
    split
    · rcases span_head r t with h | ⟨nm', sz', n, tail, h1, h2, h3, h4, h5⟩
      · exact .inl h
      · exact .inr ⟨nm', sz', n, tail, List.mem_cons_of_mem _ h1, h2, h3, h4, h5⟩
    · rename_i h0
      exact .inr ⟨nm, sz, t / sz, spanGo r (t % sz), by simp, Nat.pos_of_ne_zero h0, Nat.div_le_self _ _, by rw [List.append_assoc], hor _⟩
theorem span_dgor (us : List (List UInt8 × Nat)) (u : Nat) : DgOr (spanGo us u) := by
  rcases span_head us u with h | ⟨nm', sz', n, tail, _, _, _, h, _⟩
  · exact .inl h
  · obtain ⟨c, l, e, hc⟩ := dec_cons n
    exact .inr ⟨c, l ++ (nm' ++ tail), by rw [h, e]; rfl, hc⟩

/-- A name of a unit: one or two letters. -/
def NameOK (nm : List UInt8) : Prop := (∃ a, nm = [a] ∧ isDg a = false) ∨ (∃ a b, nm = [a, b] ∧ isDg a = false ∧ isDg b = false)
theorem NameOK.nodg {nm : List UInt8} (h : NameOK nm) (tail : List UInt8) : NoDg (nm ++ tail) := by
  rcases h with ⟨a, rfl, ha⟩ | ⟨a, b, rfl, ha, hb⟩
  · intro c r e
    simp at e
    rw [← e.1]; exact ha
  · intro c r e
    simp at e
    rw [← e.1]; exact ha
theorem trim_name {nm tail : List UInt8} (h : NameOK nm) (ht : DgOr tail) : trimR ((nm ++ tail).take 2) = nm := by
  rcases h with ⟨a, rfl, ha⟩ | ⟨a, b, rfl, ha, hb⟩
  · rcases ht with rfl | ⟨c, r, rfl, hc⟩
    · simp [trimR, ha]
    · simp [trimR, ha, hc]
  · simp [trimR, hb]
theorem unit_names : ∀ x ∈ unitsL, NameOK x.1 := by
  intro x hx
  simp [unitsL] at hx
  rcases hx with rfl | rfl | rfl | rfl | rfl
  · exact .inl ⟨_, rfl, rfl⟩
  · exact .inl ⟨_, rfl, rfl⟩
  · exact .inl ⟨_, rfl, rfl⟩
  · exact .inl ⟨_, rfl, rfl⟩
  · exact .inr ⟨_, _, rfl, rfl, rfl⟩

theorem head_step {n : Nat} {nm tail : List UInt8} (hnm : NameOK nm) (ht : DgOr tail) :
    ((Lib.decDigits n ++ (nm ++ tail)).takeWhile isDg) = Lib.decDigits n ∧ (Lib.decDigits n ++ (nm ++ tail)).drop (Lib.decDigits n).length = nm ++ tail ∧ (Lib.decDigits n ++ (nm ++ tail)).take (Lib.decDigits n).length = Lib.decDigits n ∧ trimR ((nm ++ tail).take 2) = nm :=
  ⟨tw_app _ _ (dec_dg n) (hnm.nodg tail), by simp, by simp, trim_name hnm ht⟩
theorem step_hit {n : Nat} (hn : n < 1000000000) {nm tail : List UInt8} (hnm : NameOK nm) (ht : DgOr tail) (sz tot : Nat) (hm : tot + n * sz ≤ 17592186044416) : stepI nm sz tot (Lib.decDigits n ++ (nm ++ tail)) = some (tot + n * sz, tail) := by
  obtain ⟨a, b, c, d⟩ := head_step (n := n) hnm ht
  have hl := dec_len n hn
  unfold stepI
  simp only []
  rw [a, b, c, d, dec_num]
  rw [if_neg (by intro x; rcases x with x | x | x <;> first | omega | exact x rfl), if_neg (by omega)]
  congr 2
  rw [← List.drop_drop, b]
  simp
theorem step_skip {n : Nat} {nm nm' tail : List UInt8} (hnm : NameOK nm) (ht : DgOr tail) (hne : ¬ nm = nm') (sz tot : Nat) : stepI nm' sz tot (Lib.decDigits n ++ (nm ++ tail)) = some (tot, Lib.decDigits n ++ (nm ++ tail)) := by
  obtain ⟨a, b, c, d⟩ := head_step (n := n) hnm ht
  unfold stepI
  simp only []
  rw [a, b, d, if_pos (.inr (.inr hne))]
theorem step_none (nm : List UInt8) (sz tot : Nat) : stepI nm sz tot [] = some (tot, []) := by
  unfold stepI
  simp

/-- The units that are left stand below the text. -/
theorem loop_span : ∀ (us : List (List UInt8 × Nat)) (t tot : Nat), (∀ x ∈ us, NameOK x.1 ∧ 0 < x.2) → (us.map (·.1)).Nodup → t < 1000000000 → tot + t ≤ 17592186044416 → (us = [] → t = 0) → (∀ x, us.getLast? = some x → x.2 = 1) →
    loopI us tot (spanGo us t) = some (tot + t, [])
  | [], t, tot, _, _, _, _, h0, _ => by rw [h0 rfl]; rfl
  | (nm, sz) :: r, t, tot, hok, hnd, ht, hm, _, hlast => by
    have hx := hok (nm, sz) (by simp)
    have hnd' : ¬ nm ∈ r.map (·.1) ∧ (r.map (·.1)).Nodup := by simpa using hnd
    have hrec : ∀ u, u < 1000000000 → ∀ tt, tt + u ≤ 17592186044416 → (r = [] → u = 0) → loopI r tt (spanGo r u) = some (tt + u, []) := fun u hu tt htt h0 =>
      loop_span r u tt (fun x hx => hok x (by simp [hx])) hnd'.2 hu htt h0 (fun x hx => hlast x (by
        cases r with
        | nil => simp at hx
        | cons y ys => simpa using hx))
    rw [loopI, spanGo]
    by_cases h0 : t / sz = 0
    · rw [if_pos h0]
      have hlt : t < sz := by
        rcases Nat.div_eq_zero_iff.1 h0 with h | h
        · omega
        · exact h
      have hnil : r = [] → t = 0 := fun e => by
        subst e
        have := hlast (nm, sz) rfl
        simp at this
        omega
      rcases span_head r t with h | ⟨nm', sz', n, tail, h1, h2, h3, h4, h5⟩
      · rw [h, step_none]
        have := hrec t ht tot hm hnil
        rw [h] at this
        exact this
      · have hne : ¬ nm' = nm := fun e => hnd'.1 (by rw [← e]; exact List.mem_map_of_mem h1)
        rw [h4, step_skip (hok (nm', sz') (List.mem_cons_of_mem _ h1)).1 h5 hne, ← h4]
        exact hrec t ht tot hm hnil
    · rw [if_neg h0, List.append_assoc]
      have h1 := Nat.div_add_mod t sz
      have hc : sz * (t / sz) = t / sz * sz := Nat.mul_comm _ _
      have h2 : t / sz ≤ t := Nat.div_le_self _ _
      rw [step_hit (by omega) hx.1 (span_dgor r _) sz tot (by omega)]
      show loopI r (tot + t / sz * sz) (spanGo r (t % sz)) = _
      rw [hrec (t % sz) (by omega) _ (by omega) (fun e => by
        subst e
        have := hlast (nm, sz) rfl
        simp at this
        rw [this]; omega)]
      congr 2
      omega

/-- What ParseSpan returns. -/
def calSp (l : List UInt8) : Int × Int :=
  if 32 < l.length then (0, 5) else
  match loopI unitsL 0 l with
  | none => (0, 13)
  | some x => if x.2 = [] ∧ spanL x.1 = l then ((x.1 : Int), 0) else (0, 13)
theorem loop_spanL (t : Nat) (h : t ≤ 17592186044416) : loopI unitsL 0 (spanL t) = some (t, []) := by
  unfold spanL
  split
  · rename_i h0; subst h0; decide +kernel
  · rename_i h0
    have hrec : ∀ u tt, u < 86400000 → tt + u ≤ 17592186044416 → loopI (unitsL.drop 1) tt (spanGo (unitsL.drop 1) u) = some (tt + u, []) := fun u tt hu htt =>
      loop_span (unitsL.drop 1) u tt (fun x hx => ⟨unit_names x (List.mem_of_mem_drop hx), by simp [unitsL] at hx; rcases hx with rfl | rfl | rfl | rfl <;> simp⟩) (by decide) (by omega) htt (fun e => by simp [unitsL] at e) (fun x hx => by simp [unitsL] at hx; rw [← hx])
    have hl : ∀ tt rest, loopI unitsL tt rest = (stepI [100] 86400000 tt rest).bind fun x => loopI (unitsL.drop 1) x.1 x.2 := fun _ _ => rfl
    rw [hl, show spanGo unitsL t = spanGo (unitsL.drop 0) t from rfl, spanGo_0]
    by_cases h1 : t / 86400000 = 0
    · rw [if_pos h1]
      rcases span_head (unitsL.drop 1) t with e | ⟨nm', sz', n, tail, a1, a2, a3, a4, a5⟩
      · rw [e, step_none]
        have := hrec t 0 (by omega) (by omega)
        rw [e, Nat.zero_add] at this
        exact this
      · have hne : ¬ nm' = [100] := by
          intro x
          simp [unitsL] at a1
          rcases a1 with ⟨rfl, _⟩ | ⟨rfl, _⟩ | ⟨rfl, _⟩ | ⟨rfl, _⟩ <;> simp at x
        rw [a4, step_skip (unit_names (nm', sz') (List.mem_of_mem_drop a1)) a5 hne, ← a4]
        have := hrec t 0 (by omega) (by omega)
        rw [Nat.zero_add] at this
        exact this
    · rw [if_neg h1, List.append_assoc, step_hit (by omega) (unit_names ([100], 86400000) (by simp [unitsL])) (span_dgor _ _) 86400000 0 (by omega)]
      show loopI (unitsL.drop 1) (0 + t / 86400000 * 86400000) (spanGo (unitsL.drop 1) (t % 86400000)) = _
      rw [hrec _ _ (by omega) (by omega)]
      congr 2
      omega
theorem calSp_yes {l : List UInt8} {t : Nat} (hl : l.length ≤ 32) (h : t ≤ 17592186044416) (e : l = spanL t) : calSp l = ((t : Int), 0) := by
  unfold calSp
  rw [if_neg (by omega), e, loop_spanL t h]
  simp
end Go.Proofs.YthkkjfofpoifiaaDoor
