/- Exchange, plain: a link over a network: what its two sides hold, how many copies are under way, and when all is acknowledged. -/
import Derived.Test.YthmndclmecnpmaaDoorOxC
import Derived.Test.YthmndclmecnpmaaDoorWCutP
namespace Go.Proofs.YthmndclmecnpmaaDoor
open Nw

/-! The safety of a link: what its two sides hold. -/
section
variable {K : Nat} {tx : Nat → ByteArray} {eD eA : Nat → ByteArray}
def itm (tx : Nat → ByteArray) (n : Nat) : It := ⟨(n : Int), tx n⟩
/-- An item was taken, or waits. -/
def hasM (m : MIn) (n : Nat) : Prop := n ≤ m.taken ∨ ∃ x ∈ m.l, x.n = (n : Int)
structure Sf (K : Nat) (tx : Nat → ByteArray) (T : Nat) (O : OutS) (m : MIn) (G : List It) : Prop where
  tot : O.acked + O.l.length = K
  item : ∀ j y, O.l[j]? = some y → y.x = itm tx (O.acked + j + 1)
  at_ : ∀ y ∈ O.l, y.sent = true → y.at_ < T
  le1 : O.acked ≤ m.taken
  le2 : m.taken ≤ K
  got : G = (List.range m.taken).map fun i => itm tx (i + 1)
  hold : ∀ x ∈ m.l, ∃ n : Nat, n ≤ K ∧ x = itm tx n
def markO (T : Nat) (O : OutS) : OutS := ⟨O.acked, O.l.map (mark T 3)⟩
theorem mark_x (now iv : Int) (y : Snd) : (mark now iv y).x = y.x := by unfold mark; split <;> rfl
theorem Sf.due {T : Nat} {O : OutS} {m : MIn} {G : List It} (h : Sf K tx T O m G) : Sf K tx (T + 1) (markO T O) m G := by
  refine ⟨?_, ?_, ?_, h.le1, h.le2, h.got, h.hold⟩
  · show O.acked + (O.l.map (mark T 3)).length = K
    rw [List.length_map]; exact h.tot
  · intro j y hy
    have hy' : (O.l.map (mark T 3))[j]? = some y := hy
    rw [List.getElem?_map] at hy'
    cases hz : O.l[j]? with
    | none => rw [hz] at hy'; cases hy'
    | some z =>
      rw [hz] at hy'
      simp only [Option.map_some, Option.some.injEq] at hy'
      rw [← hy', mark_x]
      exact h.item j z hz
  · intro y hy hs
    obtain ⟨z, hz, rfl⟩ := List.mem_map.1 hy
    unfold mark at hs ⊢
    split
    · show (T : Int) < ((T + 1 : Nat) : Int); omega
    · rename_i hd
      rw [if_neg hd] at hs
      have := h.at_ z hz hs
      omega
theorem Sf.mono {T T' : Nat} {O : OutS} {m : MIn} {G : List It} (h : Sf K tx T O m G) (hT : T ≤ T') : Sf K tx T' O m G :=
  { h with at_ := fun y hy hs => by have := h.at_ y hy hs; omega }
theorem Sf.recv {T : Nat} {O : OutS} {m : MIn} {G : List It} (h : Sf K tx T O m G) (hK : K ≤ 60) (ht : ∀ n, n ≤ K → (tx n).size ≤ 60000) {n : Nat} (h1 : 1 ≤ n) (h2 : n ≤ K) :
    Sf K tx T O (recvM m (itm tx n)).2 G ∧ (recvM m (itm tx n)).2.taken = m.taken ∧ hasM (recvM m (itm tx n)).2 n ∧ (∀ q, hasM m q → hasM (recvM m (itm tx n)).2 q) := by
  have hn : (itm tx n).n = (n : Int) := rfl
  have hz : (itm tx n).t = tx n := rfl
  have hl := h.le2
  unfold recvM
  rw [hn, hz, if_neg (by omega), if_neg (by have := ht n h2; omega)]
  by_cases hc : (n : Int) ≤ m.taken ∨ (m.idx n).isSome = true
  · rw [if_pos hc]
    refine ⟨h, rfl, ?_, fun q hq => hq⟩
    rcases hc with hc | hc
    · exact .inl (by show n ≤ m.taken; omega)
    · exact .inr (idx_some.1 hc)
  · rw [if_neg hc, if_neg (by omega)]
    have hc1 : ¬ (n : Int) ≤ m.taken := fun e => hc (.inl e)
    refine ⟨⟨h.tot, h.item, h.at_, h.le1, h.le2, h.got, ?_⟩, rfl, .inr ⟨itm tx n, by simp, rfl⟩, ?_⟩
    · intro x hx
      rcases List.mem_append.1 hx with hx | hx
      · exact h.hold x hx
      · rw [List.mem_singleton] at hx
        exact ⟨n, h2, hx⟩
    · rintro q (hq | ⟨x, hx, hq⟩)
      · exact .inl hq
      · exact .inr ⟨x, List.mem_append_left _ hx, hq⟩
theorem Sf.take {T : Nat} {O : OutS} {m : MIn} {G : List It} (h : Sf K tx T O m G) {x : It} (hx : (takeM m).1 = some x) :
    Sf K tx T O (takeM m).2 (G ++ [x]) ∧ (takeM m).2.taken = m.taken + 1 ∧ m.taken + 1 ≤ K ∧ (∀ q, hasM m q → hasM (takeM m).2 q) := by
  unfold takeM at hx ⊢
  cases hi : m.idx ((m.taken : Int) + 1) with
  | none => rw [hi] at hx; cases hx
  | some k =>
    rw [hi] at hx
    simp only [] at hx ⊢
    unfold MIn.idx at hi
    obtain ⟨hk, h1, h2⟩ := List.findIdx?_eq_some_iff_getElem.1 hi
    rw [List.getElem?_eq_getElem hk, Option.some.injEq] at hx
    have hxn : x.n = (m.taken : Int) + 1 := by rw [← hx]; simpa using h1
    have hxm : x ∈ m.l := by rw [← hx]; exact List.getElem_mem hk
    obtain ⟨n, hn2, rfl⟩ := h.hold x hxm
    have hnn : n = m.taken + 1 := by
      have : (n : Int) = (m.taken : Int) + 1 := hxn
      omega
    subst hnn
    have hmem : ∀ z, z ∈ m.l.take k ++ m.l.drop (k + 1) → z ∈ m.l := fun z hz => by
      rcases List.mem_append.1 hz with hz | hz
      · exact List.mem_of_mem_take hz
      · exact List.mem_of_mem_drop hz
    have hsp : m.l = m.l.take k ++ m.l[k] :: m.l.drop (k + 1) := by rw [← List.drop_eq_getElem_cons hk, List.take_append_drop]
    refine ⟨⟨h.tot, h.item, h.at_, Nat.le_succ_of_le h.le1, hn2, ?_, ?_⟩, ?_, hn2, ?_⟩
    rotate_left 2
    · trivial
    rotate_left 1
    · rw [h.got]
      simp [List.range_succ]
    · intro z hz
      exact h.hold z (hmem z hz)
    · rintro q (hq | ⟨z, hz, hq⟩)
      · exact .inl (Nat.le_succ_of_le hq)
      · rw [hsp] at hz
        rcases List.mem_append.1 hz with hz | hz
        · exact .inr ⟨z, List.mem_append_left _ hz, hq⟩
        · rcases List.mem_cons.1 hz with rfl | hz
          · left
            show q ≤ m.taken + 1
            rw [hx] at hq
            have : ((m.taken + 1 : Nat) : Int) = (q : Int) := hq
            omega
          · exact .inr ⟨z, List.mem_append_right _ hz, hq⟩
end
section
variable {K : Nat} {tx : Nat → ByteArray} {eD eA : Nat → ByteArray}
theorem Sf.ack {T : Nat} {O : OutS} {m : MIn} {G : List It} (h : Sf K tx T O m G) {a : Nat} (ha : a ≤ m.taken) :
    (ackO O a).1 = 0 ∧ Sf K tx T (ackO O a).2 m G ∧ a ≤ (ackO O a).2.acked ∧ O.acked ≤ (ackO O a).2.acked ∧ ∀ y ∈ (ackO O a).2.l, y ∈ O.l := by
  have hl := h.le2
  have ht := h.tot
  unfold ackO OutS.last
  by_cases c1 : (a : Int) ≤ O.acked
  · rw [if_pos c1]
    exact ⟨rfl, h, by show a ≤ O.acked; omega, Nat.le_refl _, fun y hy => hy⟩
  · rw [if_neg c1, if_neg (by omega)]
    refine ⟨rfl, ⟨?_, ?_, fun y hy => h.at_ y (List.mem_of_mem_drop hy), ?_, h.le2, h.got, h.hold⟩, ?_, ?_, fun y hy => List.mem_of_mem_drop hy⟩
    · simp only [Int.toNat_natCast, List.length_drop]
      omega
    · intro j y hy
      simp only [Int.toNat_natCast] at hy ⊢
      rw [List.getElem?_drop] at hy
      rw [h.item _ y hy]
      congr 1
      omega
    · simp only [Int.toNat_natCast]; exact ha
    · simp only [Int.toNat_natCast]; exact Nat.le_refl _
    · simp only [Int.toNat_natCast]; omega
theorem Sf.mem {T : Nat} {O : OutS} {m : MIn} {G : List It} (h : Sf K tx T O m G) {y : Snd} (hy : y ∈ O.l) : ∃ n, 1 ≤ n ∧ n ≤ K ∧ O.acked < n ∧ y.x = itm tx n := by
  obtain ⟨j, hj, rfl⟩ := List.mem_iff_getElem.1 hy
  have ht := h.tot
  exact ⟨O.acked + j + 1, by omega, by omega, by omega, h.item j _ (List.getElem?_eq_getElem hj)⟩
theorem Sf.at_n {T : Nat} {O : OutS} {m : MIn} {G : List It} (h : Sf K tx T O m G) {n : Nat} (h1 : O.acked < n) (h2 : n ≤ K) : ∃ y ∈ O.l, y.x = itm tx n := by
  have ht := h.tot
  have hlt : n - O.acked - 1 < O.l.length := by omega
  refine ⟨O.l[n - O.acked - 1]'hlt, List.getElem_mem _, ?_⟩
  rw [h.item _ _ (List.getElem?_eq_getElem hlt)]
  congr 1
  omega
theorem Sf.last {T : Nat} {O : OutS} {m : MIn} {G : List It} (h : Sf K tx T O m G) (hne : O.l ≠ []) : ∃ y ∈ O.l, y.x = itm tx K := by
  have hp := List.length_pos_iff.2 hne
  have ht := h.tot
  exact h.at_n (by omega) (Nat.le_refl _)

/-! The copies under way. -/
def plA : ByteArray := ⟨#[97]⟩
def plB : ByteArray := ⟨#[98]⟩
theorem plAB : plA ≠ plB := by decide
def okP (K : Nat) (eD eA : Nat → ByteArray) (t : Nat) (p : Pc) : Prop := (p.to_ = plB ∧ ∃ n, 1 ≤ n ∧ n ≤ K ∧ p.da = eD n) ∨ (p.to_ = plA ∧ ∃ a, a ≤ t ∧ p.da = eA a)
theorem okP.mono {t t' : Nat} {p : Pc} (h : okP K eD eA t p) (ht : t ≤ t') : okP K eD eA t' p := by
  rcases h with h | ⟨h1, a, h2, h3⟩
  · exact .inl h
  · exact .inr ⟨h1, a, by omega, h3⟩
def isT (s : ByteArray) (p : Pc) : Bool := decide (p.to_ = s)
def aftB (t : Nat) (p : Pc) : Bool := decide ((t : Int) < p.at_)
structure Ct (P : List Pc) (u t use b a a1 : Nat) : Prop where
  x : P.countP (aftB u) ≤ 2 * use
  b : P.countP (isT plB) ≤ b
  a : P.countP (isT plA) ≤ a
  a1 : P.countP (fun p => isT plA p && aftB t p) ≤ a1
theorem Ct.len {P : List Pc} {u t use b a a1 : Nat} (h : Ct P u t use b a a1) (hp : ∀ p ∈ P, p.to_ = plB ∨ p.to_ = plA) : P.length ≤ b + a := by
  have h1 : P.countP (isT plB) + P.countP (isT plA) = P.length := by
    have := List.length_eq_countP_add_countP (isT plB) (l := P)
    rw [this]
    congr 1
    apply List.countP_congr
    intro p hp'
    unfold isT
    rcases hp p hp' with e | e <;> rw [e] <;> decide
  have := h.b
  have := h.a
  omega
/-- The copies of one packet. -/
structure NwOf (T use len : Nat) (cut : Bool) (b c : ByteArray) (N : List Pc) : Prop where
  two : N.length ≤ 2
  all : ∀ p ∈ N, p.to_ = b ∧ p.da = c
  rel : use = len → ∀ p ∈ N, p.at_ = (T : Int) + 1
  one : use = len → cut = false → ∃ p ∈ N, p.at_ = (T : Int) + 1
theorem count_add {P N : List Pc} {f : Pc → Bool} {k : Nat} (h : P.countP f ≤ k) (hN : N.length ≤ 2) : (P ++ N).countP f ≤ k + 2 := by
  rw [List.countP_append]
  have := List.countP_le_length (p := f) (l := N)
  omega
theorem count_no {P N : List Pc} {f : Pc → Bool} {k : Nat} (h : P.countP f ≤ k) (hN : ∀ p ∈ N, f p = false) : (P ++ N).countP f ≤ k := by
  rw [List.countP_append]
  have : N.countP f = 0 := by
    rw [List.countP_eq_zero]
    intro p hp
    rw [hN p hp]
    simp
  omega
theorem Ct.sendB {P N : List Pc} {T use len b a a1 : Nat} {cut : Bool} {c : ByteArray} (h : Ct P (T + 1) (T + 1) use b a a1) (hN : NwOf T use len cut plB c N) (hu : use ≤ len) : Ct (P ++ N) (T + 1) (T + 1) (min (use + 1) len) (b + 2) a a1 := by
  have hA : ∀ p ∈ N, isT plA p = false := fun p hp => by unfold isT; rw [(hN.all p hp).1]; decide
  refine ⟨?_, count_add h.b hN.two, count_no h.a hA, count_no h.a1 (fun p hp => by rw [hA p hp]; rfl)⟩
  by_cases hl : use = len
  · have := count_no (N := N) h.x (fun p hp => by unfold aftB; rw [hN.rel hl p hp]; simp)
    omega
  · have := count_add h.x hN.two
    omega
theorem Ct.sendA {P N : List Pc} {T use len b a a1 : Nat} {cut : Bool} {c : ByteArray} (h : Ct P (T + 2) (T + 1) use b a a1) (hN : NwOf (T + 1) use len cut plA c N) (hu : use ≤ len) : Ct (P ++ N) (T + 2) (T + 1) (min (use + 1) len) b (a + 2) (a1 + 2) := by
  have hB : ∀ p ∈ N, isT plB p = false := fun p hp => by unfold isT; rw [(hN.all p hp).1]; decide
  refine ⟨?_, count_no h.b hB, count_add h.a hN.two, count_add h.a1 hN.two⟩
  by_cases hl : use = len
  · have := count_no (N := N) h.x (fun p hp => by unfold aftB; rw [hN.rel hl p hp]; simp; omega)
    omega
  · have := count_add h.x hN.two
    omega
theorem countP_mono2 {P : List Pc} {f g : Pc → Bool} (h : ∀ p ∈ P, f p = true → g p = true) : P.countP f ≤ P.countP g := List.countP_mono_left h
theorem left_mem {P : List Pc} {t : Int} {s : ByteArray} {p : Pc} : p ∈ leftP P t s ↔ p ∈ P ∧ ¬ (p.to_ = s ∧ p.at_ ≤ t) := by
  unfold leftP
  rw [List.mem_filter]
  simp only [Bool.not_eq_true', Bool.and_eq_false_iff, decide_eq_false_iff_not, Decidable.not_and_iff_not_or_not]
/-- What is left when b has received at T + 1. -/
theorem Ct.takeB {P : List Pc} {T use b a a1 : Nat} (h : Ct P (T + 1) (T + 1) use b a a1) : Ct (leftP P ((T + 1 : Nat) : Int) plB) (T + 2) (T + 1) use (2 * use) a (2 * use) := by
  have hx := h.x
  have ha := h.a
  unfold leftP
  refine ⟨?_, ?_, ?_, ?_⟩
  · rw [List.countP_filter]
    refine Nat.le_trans (countP_mono2 (fun p _ hp => ?_)) hx
    simp only [aftB, Bool.and_eq_true, decide_eq_true_eq] at hp ⊢
    omega
  · rw [List.countP_filter]
    refine Nat.le_trans (countP_mono2 (fun p _ hp => ?_)) hx
    simp only [aftB, isT, Bool.and_eq_true, decide_eq_true_eq, Bool.not_eq_true', Bool.and_eq_false_iff, decide_eq_false_iff_not] at hp ⊢
    rcases hp.2 with h1 | h1
    · exact absurd hp.1 h1
    · omega
  · rw [List.countP_filter]
    refine Nat.le_trans (countP_mono2 (fun p _ hp => ?_)) ha
    simp only [Bool.and_eq_true] at hp
    exact hp.1
  · rw [List.countP_filter]
    refine Nat.le_trans (countP_mono2 (fun p _ hp => ?_)) hx
    simp only [Bool.and_eq_true] at hp
    exact hp.1.2
theorem Ct.takeA {P : List Pc} {T use b a a1 : Nat} (h : Ct P (T + 2) (T + 1) use b a a1) : Ct (leftP P ((T + 1 : Nat) : Int) plA) (T + 2) (T + 2) use b a1 a1 := by
  have hx := h.x
  have hb := h.b
  have ha1 := h.a1
  unfold leftP
  refine ⟨?_, ?_, ?_, ?_⟩
  · rw [List.countP_filter]
    refine Nat.le_trans (countP_mono2 (fun p _ hp => ?_)) hx
    simp only [Bool.and_eq_true] at hp
    exact hp.1
  · rw [List.countP_filter]
    refine Nat.le_trans (countP_mono2 (fun p _ hp => ?_)) hb
    simp only [Bool.and_eq_true] at hp
    exact hp.1
  · rw [List.countP_filter]
    refine Nat.le_trans (countP_mono2 (fun p _ hp => ?_)) ha1
    simp only [aftB, isT, Bool.and_eq_true, decide_eq_true_eq, Bool.not_eq_true', Bool.and_eq_false_iff, decide_eq_false_iff_not] at hp ⊢
    rcases hp.2 with h1 | h1
    · exact absurd hp.1 h1
    · exact ⟨hp.1, by omega⟩
  · rw [List.countP_filter]
    refine Nat.le_trans (countP_mono2 (fun p _ hp => ?_)) ha1
    simp only [aftB, isT, Bool.and_eq_true, decide_eq_true_eq, Bool.not_eq_true', Bool.and_eq_false_iff, decide_eq_false_iff_not] at hp ⊢
    exact ⟨hp.1.1, by omega⟩
end
section
variable {K : Nat} {tx : Nat → ByteArray} {eD eA : Nat → ByteArray}
/-! One step of a link. What was there at its start. -/
structure Ls where
  T : Nat
  use : Nat
  len : Nat
  cut : Bool
  P : List Pc
  O : OutS
  m : MIn
def wait (T : Nat) (y : Snd) : Int := if y.sent = true then y.at_ + 3 - T else 0
def lastW (K T d : Nat) (O : OutS) : Prop := ∀ y ∈ O.l, y.x.n = (K : Int) → wait T y ≤ d
def allW (T d : Nat) (O : OutS) (m : MIn) : Prop := ∀ y ∈ O.l, (∃ n : Nat, y.x.n = (n : Int) ∧ hasM m n) ∨ (1 ≤ d ∧ wait T y < d)
/-- In f steps everything is acknowledged. -/
def Lv (K : Nat) (eA : Nat → ByteArray) (f : Nat) (s : Ls) : Prop :=
  s.O.l = [] ∨ (1 ≤ f ∧ ∃ p ∈ s.P, p.to_ = plA ∧ p.at_ ≤ (s.T : Int) + 1 ∧ p.da = eA K) ∨ (s.use = s.len ∧ s.m.taken = K ∧ ∃ d, lastW K s.T d s.O ∧ d + 2 ≤ f) ∨
    (s.use = s.len ∧ ∃ d, allW s.T d s.O s.m ∧ d + 5 ≤ f) ∨ (s.use < s.len ∧ ∃ d, lastW K s.T d s.O ∧ 3 * (s.len - s.use) + d + 9 ≤ f)
/-- A link between two steps. -/
structure Lk (K : Nat) (tx : Nat → ByteArray) (eD eA : Nat → ByteArray) (s : Ls) (G : List It) : Prop where
  sf : Sf K tx s.T s.O s.m G
  ok : ∀ p ∈ s.P, okP K eD eA s.m.taken p
  ct : Ct s.P (s.T + 1) (s.T + 1) s.use 120 520 520
  us : s.use ≤ s.len
  len : s.len ≤ 60
  gap : ¬ hasM s.m (s.m.taken + 1)
/-- While the sender sends. -/
structure P1 (K : Nat) (eD eA : Nat → ByteArray) (s : Ls) (l : List It) (j use : Nat) (P : List Pc) : Prop where
  us : use = min (s.use + j) s.len
  ok : ∀ p ∈ P, okP K eD eA s.m.taken p
  ct : Ct P (s.T + 1) (s.T + 1) use (120 + 2 * j) 520 520
  old : ∀ p ∈ s.P, p ∈ P
  new_ : s.cut = false → s.use = s.len → ∀ i n, i < j → l[i]? = some (itm tx n) → ∃ p ∈ P, p.to_ = plB ∧ p.at_ = (s.T : Int) + 1 ∧ p.da = eD n
variable {s : Ls} {G : List It}
theorem p1_start (h : Lk K tx eD eA s G) (l : List It) : P1 (tx := tx) K eD eA s l 0 s.use s.P :=
  ⟨by have := h.us; omega, h.ok, h.ct, fun p hp => hp, fun _ _ i n hi => absurd hi (by omega)⟩
theorem p1_send {l : List It} {j use n : Nat} {P N : List Pc} (h : P1 (tx := tx) K eD eA s l j use P) (hj : l[j]? = some (itm tx n)) (h1 : 1 ≤ n) (h2 : n ≤ K) (hN : NwOf s.T use s.len s.cut plB (eD n) N) :
    P1 (tx := tx) K eD eA s l (j + 1) (min (use + 1) s.len) (P ++ N) := by
  have hu := h.us
  refine ⟨by omega, ?_, ?_, fun p hp => List.mem_append_left _ (h.old p hp), ?_⟩
  · intro p hp
    rcases List.mem_append.1 hp with hp | hp
    · exact h.ok p hp
    · exact .inl ⟨(hN.all p hp).1, n, h1, h2, (hN.all p hp).2⟩
  · have := h.ct.sendB hN (by omega)
    exact ⟨this.x, by have := this.b; omega, this.a, this.a1⟩
  · intro hc hl i q hi hq
    by_cases hij : i = j
    · subst hij
      rw [hj] at hq
      have hq' : itm tx n = itm tx q := by injection hq
      have hnq : n = q := by
        have : (n : Int) = (q : Int) := congrArg It.n hq'
        omega
      subst hnq
      obtain ⟨p, hp, ha⟩ := hN.one (by omega) hc
      exact ⟨p, List.mem_append_right _ hp, (hN.all p hp).1, ha, (hN.all p hp).2⟩
    · obtain ⟨p, hp, hh⟩ := h.new_ hc hl i q (by omega) hq
      exact ⟨p, List.mem_append_left _ hp, hh⟩
theorem P1.len {l : List It} {j use : Nat} {P : List Pc} (h : P1 (tx := tx) K eD eA s l j use P) (hj : j ≤ 60) : P.length ≤ 760 := by
  have := h.ct.len (fun p hp => by rcases h.ok p hp with h | h; exact .inl h.1; exact .inr h.1)
  omega
/-- While the receiver receives: r has arrived, d of them were received, a of them acknowledged. -/
structure P3 (K : Nat) (tx : Nat → ByteArray) (eD eA : Nat → ByteArray) (s : Ls) (P1 : List Pc) (use1 : Nat) (r : List Cp) (d a use : Nat) (P : List Pc) (m : MIn) (G : List It) : Prop where
  sf : Sf K tx (s.T + 1) (markO s.T s.O) m G
  ok : ∀ p ∈ P, okP K eD eA m.taken p
  ct : Ct P (s.T + 2) (s.T + 1) use 120 (520 + 2 * a) (120 + 2 * a)
  us : use1 ≤ use ∧ use ≤ s.len
  done : ∀ i c n, i < d → r[i]? = some c → 1 ≤ n → n ≤ K → c.da = eD n → hasM m n
  mono : ∀ n, hasM s.m n → hasM m n
  tk : s.m.taken ≤ m.taken
  oldA : ∀ p ∈ P1, p.to_ = plA → p ∈ P
  new_ : s.cut = false → use1 = s.len → s.m.taken = K → 0 < a → ∃ p ∈ P, p.to_ = plA ∧ p.at_ ≤ (s.T : Int) + 2 ∧ p.da = eA K
variable {P0 : List Pc} {use1 : Nat} {r : List Cp}
theorem p3_start {l : List It} {j use : Nat} {P : List Pc} (hk : Lk K tx eD eA s G) (h : P1 (tx := tx) K eD eA s l j use P) : P3 K tx eD eA s P use r 0 0 use (leftP P ((s.T + 1 : Nat) : Int) plB) s.m G := by
  have hu := h.us
  have hl := hk.len
  refine ⟨hk.sf.due, fun p hp => h.ok p (left_mem.1 hp).1, ?_, ⟨Nat.le_refl _, by omega⟩, fun i c n hi => absurd hi (by omega), fun n hn => hn, Nat.le_refl _, ?_, fun _ _ _ h => absurd h (by omega)⟩
  · have := h.ct.takeB
    exact ⟨this.x, by have := this.b; omega, this.a, by have := this.a1; omega⟩
  · intro p hp e
    exact left_mem.2 ⟨hp, fun h => plAB (e.symm.trans h.1)⟩
theorem P3.len {d a use : Nat} {P : List Pc} {m : MIn} {G : List It} (h : P3 K tx eD eA s P0 use1 r d a use P m G) (ha : a ≤ 760) : P.length ≤ 2160 := by
  have := h.ct.len (fun p hp => by rcases h.ok p hp with h | h; exact .inl h.1; exact .inr h.1)
  omega
theorem P3.recv {d use n : Nat} {P : List Pc} {m : MIn} {G : List It} {c : Cp} (h : P3 K tx eD eA s P0 use1 r d d use P m G) (hK : K ≤ 60) (ht : ∀ n, n ≤ K → (tx n).size ≤ 60000) (inj : ∀ a b, 1 ≤ a → a ≤ K → 1 ≤ b → b ≤ K → eD a = eD b → a = b) (hc : r[d]? = some c) (h1 : 1 ≤ n) (h2 : n ≤ K) (hd : c.da = eD n) :
    P3 K tx eD eA s P0 use1 r (d + 1) d use P (recvM m (itm tx n)).2 G := by
  obtain ⟨g1, g2, g3, g4⟩ := h.sf.recv hK ht h1 h2
  refine ⟨g1, ?_, h.ct, h.us, ?_, fun q hq => g4 q (h.mono q hq), by rw [g2]; exact h.tk, h.oldA, h.new_⟩
  · rw [g2]; exact h.ok
  · intro i c' q hi hc' q1 q2 hq
    by_cases hid : i = d
    · subst hid
      rw [hc] at hc'
      injection hc' with hc'
      subst hc'
      have := inj n q h1 h2 q1 q2 (hd.symm.trans hq)
      subst this
      exact g3
    · exact g4 q (h.done i c' q (by omega) hc' q1 q2 hq)
theorem P3.take {d a use : Nat} {P : List Pc} {m : MIn} {G : List It} {x : It} (h : P3 K tx eD eA s P0 use1 r d a use P m G) (hx : (takeM m).1 = some x) :
    P3 K tx eD eA s P0 use1 r d a use P (takeM m).2 (G ++ [x]) ∧ (takeM m).2.taken = m.taken + 1 ∧ m.taken + 1 ≤ K := by
  obtain ⟨g1, g2, g3, g4⟩ := h.sf.take hx
  exact ⟨⟨g1, fun p hp => (h.ok p hp).mono (by omega), h.ct, h.us, fun i c n hi hc n1 n2 hn => g4 n (h.done i c n hi hc n1 n2 hn), fun q hq => g4 q (h.mono q hq), by rw [g2]; exact Nat.le_succ_of_le h.tk, h.oldA, h.new_⟩, g2, g3⟩
theorem take_gap {m : MIn} (h : (takeM m).1 = none) : ¬ hasM m (m.taken + 1) := by
  have hi : m.idx ((m.taken : Int) + 1) = none := by
    cases hi : m.idx ((m.taken : Int) + 1) with
    | none => rfl
    | some k =>
      unfold takeM at h
      rw [hi] at h
      unfold MIn.idx at hi
      obtain ⟨hk, _⟩ := List.findIdx?_eq_some_iff_getElem.1 hi
      simp only [List.getElem?_eq_getElem hk] at h
      cases h
  rintro (h1 | ⟨x, hx, h2⟩)
  · omega
  · have : (m.idx ((m.taken : Int) + 1)).isSome = true := idx_some.2 ⟨x, hx, by omega⟩
    rw [hi] at this
    cases this
theorem P3.ack {d use : Nat} {P N : List Pc} {m : MIn} {G : List It} (h : P3 K tx eD eA s P0 use1 r (d + 1) d use P m G) (hN : NwOf (s.T + 1) use s.len s.cut plA (eA m.taken) N) :
    P3 K tx eD eA s P0 use1 r (d + 1) (d + 1) (min (use + 1) s.len) (P ++ N) m G := by
  have hu := h.us
  refine ⟨h.sf, ?_, ?_, ⟨by omega, by omega⟩, h.done, h.mono, h.tk, fun p hp e => List.mem_append_left _ (h.oldA p hp e), ?_⟩
  · intro p hp
    rcases List.mem_append.1 hp with hp | hp
    · exact h.ok p hp
    · exact .inr ⟨(hN.all p hp).1, m.taken, Nat.le_refl _, (hN.all p hp).2⟩
  · have := h.ct.sendA hN hu.2
    exact ⟨this.x, this.b, by have := this.a; omega, by have := this.a1; omega⟩
  · intro hc h1 hK _
    obtain ⟨p, hp, ha⟩ := hN.one (by omega) hc
    have hm : m.taken = K := by have := h.tk; have := h.sf.le2; omega
    exact ⟨p, List.mem_append_right _ hp, (hN.all p hp).1, by have := ha; omega, by rw [(hN.all p hp).2, hm]⟩
/-- While the sender hears what was received. -/
structure P4 (K : Nat) (tx : Nat → ByteArray) (eA : Nat → ByteArray) (T : Nat) (O1 : OutS) (m : MIn) (G : List It) (r : List Cp) (j : Nat) (O : OutS) : Prop where
  sf : Sf K tx T O m G
  done : ∀ i c, i < j → r[i]? = some c → c.da = eA K → O.acked = K
  sub : ∀ y ∈ O.l, y ∈ O1.l
theorem p4_start {T : Nat} {O : OutS} {m : MIn} (h : Sf K tx T O m G) : P4 K tx eA T O m G r 0 O := ⟨h, fun i c hi => absurd hi (by omega), fun y hy => hy⟩
theorem P4.ack {T j a : Nat} {O O1 : OutS} {m : MIn} {c : Cp} (h : P4 K tx eA T O1 m G r j O) (inj : ∀ a b, a ≤ K → b ≤ K → eA a = eA b → a = b) (hc : r[j]? = some c) (ha : a ≤ m.taken) (hd : c.da = eA a) :
    (ackO O a).1 = 0 ∧ P4 K tx eA T O1 m G r (j + 1) (ackO O a).2 := by
  obtain ⟨g1, g2, g3, g4, g5⟩ := h.sf.ack ha
  have hl := h.sf.le2
  have ht := g2.tot
  refine ⟨g1, g2, ?_, fun y hy => h.sub y (g5 y hy)⟩
  intro i c' hi hc' hq
  by_cases hij : i = j
  · subst hij
    rw [hc] at hc'
    injection hc' with hc'
    subst hc'
    have := inj a K (by omega) (Nat.le_refl _) (hd.symm.trans hq)
    omega
  · have := h.done i c' (by omega) hc' hq
    omega
end
section
variable {K : Nat} {tx : Nat → ByteArray} {eD eA : Nat → ByteArray} {s : Ls} {G : List It}
def dueL (s : Ls) : List It := dueTo s.T 3 (min s.O.l.length 64) s.O.l
theorem Lk.len40 (h : Lk K tx eD eA s G) (hK : K ≤ 60) : s.O.l.length ≤ 60 := by have := h.sf.tot; omega
theorem dueL_eq (h : s.O.l.length ≤ 60) : dueL s = (s.O.l.filter (dueB s.T 3)).map (·.x) := by
  unfold dueL dueTo
  rw [Nat.min_eq_left (by omega), List.take_length]
theorem markTo_eq (h : s.O.l.length ≤ 60) : markTo s.T 3 (min s.O.l.length 64) s.O.l = (markO s.T s.O).l := by
  unfold markTo markO
  rw [Nat.min_eq_left (by omega), List.take_length, List.drop_length, List.append_nil]
theorem dueL_len (h : s.O.l.length ≤ 60) : (dueL s).length ≤ 60 := by
  rw [dueL_eq h, List.length_map]
  exact Nat.le_trans (List.length_filter_le _ _) h
theorem dueL_mem (hk : Lk K tx eD eA s G) (hK : K ≤ 60) {x : It} (hx : x ∈ dueL s) : ∃ n, 1 ≤ n ∧ n ≤ K ∧ x = itm tx n := by
  rw [dueL_eq (hk.len40 hK)] at hx
  obtain ⟨y, hy, rfl⟩ := List.mem_map.1 hx
  obtain ⟨n, h1, h2, _, h3⟩ := hk.sf.mem (List.mem_filter.1 hy).1
  exact ⟨n, h1, h2, h3⟩
theorem dueL_has (h : s.O.l.length ≤ 60) {y : Snd} (hy : y ∈ s.O.l) (hd : dueB s.T 3 y = true) : y.x ∈ dueL s := by
  rw [dueL_eq h]
  exact List.mem_map.2 ⟨y, List.mem_filter.2 ⟨hy, hd⟩, rfl⟩
/-- An item that is not due was sent, and waits for at least a step. -/
theorem wait_pos {T : Nat} {y : Snd} (h1 : y.sent = true → y.at_ < T) (hd : ¬ dueB T 3 y = true) : y.sent = true ∧ 1 ≤ wait T y ∧ wait (T + 1) y = wait T y - 1 ∧ mark T 3 y = y := by
  have hm : mark T 3 y = y := by unfold mark; rw [if_neg hd]
  unfold dueB at hd
  cases hs : y.sent with
  | false => rw [hs] at hd; simp at hd
  | true =>
    have := h1 hs
    rw [hs, Bool.true_and, decide_eq_true (show y.at_ ≤ (T : Int) by omega), Bool.true_and, Bool.not_not, decide_eq_true_eq] at hd
    unfold wait
    rw [hs]
    simp only [if_true]
    refine ⟨trivial, by omega, by omega, hm⟩
theorem wait_two {T : Nat} {y : Snd} (h1 : y.sent = true → y.at_ < T) : wait T y ≤ 2 := by
  unfold wait
  split
  · rename_i h
    have := h1 h
    omega
  · omega
theorem arr_mem {P : List Pc} {t : Int} {b : ByteArray} {c : Cp} : c ∈ arrP P t b ↔ ∃ p ∈ P, p.to_ = b ∧ p.at_ ≤ t ∧ p.cp = c := by
  unfold arrP forP
  rw [List.mem_filter, List.mem_map]
  constructor
  · rintro ⟨⟨p, hp, rfl⟩, h⟩
    rw [List.mem_filter] at hp
    exact ⟨p, hp.1, by simpa using hp.2, of_decide_eq_true h, rfl⟩
  · rintro ⟨p, hp, h1, h2, rfl⟩
    exact ⟨⟨p, List.mem_filter.2 ⟨hp, by simpa using h1⟩, rfl⟩, decide_eq_true h2⟩
theorem arr_len {P : List Pc} {t : Int} {b : ByteArray} : (arrP P t b).length ≤ P.countP (isT b) := by
  unfold arrP forP
  refine Nat.le_trans (List.length_filter_le _ _) ?_
  rw [List.length_map, ← List.countP_eq_length_filter]
  exact Nat.le_refl _
/-- What arrives at b. -/
theorem arr_b {l : List It} {j use : Nat} {P : List Pc} {r : List Cp} (h : P1 (tx := tx) K eD eA s l j use P) (hr : r.Perm (arrP P ((s.T + 1 : Nat) : Int) plB)) {c : Cp} (hc : c ∈ r) : ∃ n, 1 ≤ n ∧ n ≤ K ∧ c.da = eD n := by
  obtain ⟨p, hp, h1, _, rfl⟩ := arr_mem.1 (hr.mem_iff.1 hc)
  rcases h.ok p hp with ⟨_, h2⟩ | ⟨h2, _⟩
  · exact h2
  · exact absurd (h2.symm.trans h1) plAB
theorem arr_a {P0 : List Pc} {use1 d a use : Nat} {P : List Pc} {m : MIn} {G' : List It} {r r2 : List Cp} (h : P3 K tx eD eA s P0 use1 r d a use P m G') {t : Int} (hr : r2.Perm (arrP P t plA)) {c : Cp} (hc : c ∈ r2) : ∃ n, n ≤ m.taken ∧ c.da = eA n := by
  obtain ⟨p, hp, h1, _, rfl⟩ := arr_mem.1 (hr.mem_iff.1 hc)
  rcases h.ok p hp with ⟨h2, _⟩ | ⟨_, h2⟩
  · exact absurd (h1.symm.trans h2) plAB
  · exact h2
theorem r_len {l : List It} {j use : Nat} {P : List Pc} {r : List Cp} (h : P1 (tx := tx) K eD eA s l j use P) (hj : j ≤ 60) {t : Int} (hr : r.Perm (arrP P t plB)) : r.length ≤ 240 := by
  rw [hr.length_eq]
  have := arr_len (P := P) (t := t) (b := plB)
  have := h.ct.b
  omega
variable {Pa Pb : List Pc} {use1 use : Nat} {m : MIn} {G' : List It} {r r2 : List Cp} {O' : OutS}
theorem lk_end (hk : Lk K tx eD eA s G) (hK : K ≤ 40) (h1 : P1 (tx := tx) K eD eA s (dueL s) (dueL s).length use1 Pa) (hr : r.Perm (arrP Pa ((s.T + 1 : Nat) : Int) plB)) (h3 : P3 K tx eD eA s Pa use1 r r.length r.length use Pb m G')
    (hg : ¬ hasM m (m.taken + 1)) (hr2 : r2.Perm (arrP Pb ((s.T + 1 : Nat) : Int) plA)) (h4 : P4 K tx eA (s.T + 1) (markO s.T s.O) m G' r2 r2.length O') :
    Lk K tx eD eA ⟨s.T + 1, use, s.len, s.cut, leftP Pb ((s.T + 1 : Nat) : Int) plA, O', m⟩ G' ∧ (s.cut = false → ∀ f, Lv K eA (f + 1) s → Lv K eA f ⟨s.T + 1, use, s.len, s.cut, leftP Pb ((s.T + 1 : Nat) : Int) plA, O', m⟩) := by
  have h60 := hk.len40 (by omega)
  have hd60 : (dueL s).length ≤ 40 := by
    rw [dueL_eq h60, List.length_map]
    have := List.length_filter_le (dueB s.T 3) s.O.l
    have := hk.sf.tot
    omega
  have hrl : r.length ≤ 200 := by
    rw [hr.length_eq]
    have := arr_len (P := Pa) (t := ((s.T + 1 : Nat) : Int)) (b := plB)
    have := h1.ct.b
    omega
  have hus := h3.us
  have hus1 := h1.us
  have hlen := hk.len
  refine ⟨⟨h4.sf, fun p hp => h3.ok p (left_mem.1 hp).1, ?_, hus.2, hk.len, hg⟩, ?_⟩
  · have := h3.ct.takeA
    exact ⟨this.x, this.b, Nat.le_trans this.a (by omega), Nat.le_trans this.a1 (by omega)⟩
  intro hcut f hL
  -- what stands in O' stood in O, and was marked
  have hsub : ∀ y ∈ O'.l, ∃ z ∈ s.O.l, y = mark s.T 3 z := fun y hy => by
    obtain ⟨z, hz, e⟩ := List.mem_map.1 (h4.sub y hy)
    exact ⟨z, hz, e.symm⟩
  have htwo : ∀ y ∈ O'.l, wait (s.T + 1) y ≤ 2 := fun y hy => wait_two (h4.sf.at_ y hy)
  have hdone : O'.acked = K → O'.l = [] := fun e => by
    have := h4.sf.tot
    exact List.length_eq_zero_iff.1 (by omega)
  have hack : (∃ p ∈ Pb, p.to_ = plA ∧ p.at_ ≤ (s.T : Int) + 2 ∧ p.da = eA K) → 1 ≤ f → Lv K eA f ⟨s.T + 1, use, s.len, s.cut, leftP Pb ((s.T + 1 : Nat) : Int) plA, O', m⟩ := by
    rintro ⟨p, hp, h5, h6, h7⟩ hf
    by_cases ht : p.at_ ≤ ((s.T + 1 : Nat) : Int)
    · left
      obtain ⟨i, hi⟩ := List.mem_iff_getElem?.1 (hr2.mem_iff.2 (arr_mem.2 ⟨p, hp, h5, ht, rfl⟩))
      exact hdone (h4.done i _ (List.getElem?_eq_some_iff.1 hi).1 hi h7)
    · exact .inr (.inl ⟨hf, p, left_mem.2 ⟨hp, fun e => ht e.2⟩, h5, by show p.at_ ≤ ((s.T + 1 : Nat) : Int) + 1; omega, h7⟩)
  -- what was due has been received, if the link loses nothing
  have hrec : s.use = s.len → ∀ y ∈ s.O.l, dueB s.T 3 y = true → (∃ n : Nat, y.x.n = (n : Int) ∧ hasM m n) ∧ 0 < r.length := fun hl y hy hd => by
    obtain ⟨n, n1, n2, _, hx⟩ := hk.sf.mem hy
    obtain ⟨i, hi⟩ := List.mem_iff_getElem?.1 (dueL_has h60 hy hd)
    obtain ⟨p, hp, h5, h6, h7⟩ := h1.new_ hcut hl i n (List.getElem?_eq_some_iff.1 hi).1 (by rw [hi, hx])
    have hmem : p.cp ∈ r := hr.mem_iff.2 (arr_mem.2 ⟨p, hp, h5, by omega, rfl⟩)
    obtain ⟨k, hk'⟩ := List.mem_iff_getElem?.1 hmem
    refine ⟨⟨n, by rw [hx]; rfl, h3.done k _ n (List.getElem?_eq_some_iff.1 hk').1 hk' n1 n2 h7⟩, ?_⟩
    have := (List.getElem?_eq_some_iff.1 hk').1
    omega
  by_cases he : s.O.l = []
  · left
    show O'.l = []
    cases hO : O'.l with
    | nil => rfl
    | cons y l =>
      obtain ⟨z, hz, _⟩ := hsub y (by rw [hO]; simp)
      rw [he] at hz
      cases hz
  have hcase3 : s.use = s.len → s.m.taken = K → ∀ d, lastW K s.T d s.O → d + 2 ≤ f + 1 → Lv K eA f ⟨s.T + 1, use, s.len, s.cut, leftP Pb ((s.T + 1 : Nat) : Int) plA, O', m⟩ := by
    intro hl hK' d hW hdf
    have hmK : m.taken = K := by have := h3.tk; have := h3.sf.le2; omega
    by_cases hdue : ∃ y ∈ s.O.l, y.x.n = (K : Int) ∧ dueB s.T 3 y = true
    · obtain ⟨y, hy, _, hd⟩ := hdue
      have hrp := (hrec hl y hy hd).2
      obtain ⟨p, hp, h5, h6, h7⟩ := h3.new_ hcut (by omega) hK' hrp
      exact hack ⟨p, hp, h5, h6, h7⟩ (by omega)
    · obtain ⟨y0, hy0, hx0⟩ := hk.sf.last he
      have hn0 : y0.x.n = (K : Int) := by rw [hx0]; rfl
      have hw0 := wait_pos (hk.sf.at_ y0 hy0) (fun e => hdue ⟨y0, hy0, hn0, e⟩)
      have hd1 : 1 ≤ d := by have := hW y0 hy0 hn0; omega
      refine .inr (.inr (.inl ⟨by show use = s.len; omega, hmK, d - 1, ?_, by omega⟩))
      intro y hy hn
      obtain ⟨z, hz, rfl⟩ := hsub y hy
      rw [mark_x] at hn
      have hw := wait_pos (hk.sf.at_ z hz) (fun e => hdue ⟨z, hz, hn, e⟩)
      have := hW z hz hn
      show wait (s.T + 1) (mark s.T 3 z) ≤ _
      rw [hw.2.2.2, hw.2.2.1]
      omega
  rcases hL with hL | ⟨_, p, hp, h5, h6, h7⟩ | ⟨hl, hK', d, hW, hdf⟩ | ⟨hl, d, hQ, hdf⟩ | ⟨hl, d, hW, hdf⟩
  · exact absurd hL he
  · -- an acknowledgement of all is under way
    have hpb : p ∈ Pb := h3.oldA p (h1.old p hp) h5
    left
    obtain ⟨i, hi⟩ := List.mem_iff_getElem?.1 (hr2.mem_iff.2 (arr_mem.2 ⟨p, hpb, h5, by omega, rfl⟩))
    exact hdone (h4.done i _ (List.getElem?_eq_some_iff.1 hi).1 hi h7)
  · exact hcase3 hl hK' d hW hdf
  · by_cases hd0 : d = 0
    · subst hd0
      have hK' : s.m.taken = K := by
        rcases Nat.lt_or_ge s.m.taken K with hlt | hge
        · exfalso
          obtain ⟨y, hy, hx⟩ := hk.sf.at_n (n := s.m.taken + 1) (by have := hk.sf.le1; omega) (by omega)
          rcases hQ y hy with ⟨n, hn, hh⟩ | hw
          · rw [hx] at hn
            have hnn : ((s.m.taken + 1 : Nat) : Int) = (n : Int) := hn
            have : s.m.taken + 1 = n := by omega
            subst this
            exact hk.gap hh
          · omega
        · have := hk.sf.le2; omega
      exact hcase3 hl hK' 2 (fun y hy _ => wait_two (hk.sf.at_ y hy)) (by omega)
    · refine .inr (.inr (.inr (.inl ⟨by show use = s.len; omega, d - 1, ?_, by omega⟩)))
      intro y hy
      obtain ⟨z, hz, rfl⟩ := hsub y hy
      show (∃ n : Nat, (mark s.T 3 z).x.n = (n : Int) ∧ hasM m n) ∨ (1 ≤ d - 1 ∧ wait (s.T + 1) (mark s.T 3 z) < ((d - 1 : Nat) : Int))
      by_cases hd : dueB s.T 3 z = true
      · left
        rw [mark_x]
        exact (hrec hl z hz hd).1
      · have hw := wait_pos (hk.sf.at_ z hz) hd
        rw [hw.2.2.2, hw.2.2.1]
        rcases hQ z hz with ⟨n, hn, hh⟩ | hw'
        · exact .inl ⟨n, hn, h3.mono n hh⟩
        · right; omega
  · have hfin : ∀ d' : Nat, lastW K (s.T + 1) d' O' → 3 * (s.len - use) + d' + 9 ≤ f ∨ ¬ use < s.len → Lv K eA f ⟨s.T + 1, use, s.len, s.cut, leftP Pb ((s.T + 1 : Nat) : Int) plA, O', m⟩ := by
      intro d' hW' hf
      by_cases hlt : use < s.len
      · exact .inr (.inr (.inr (.inr ⟨hlt, d', hW', by rcases hf with hf | hf; exact hf; exact absurd hlt hf⟩)))
      · refine .inr (.inr (.inr (.inl ⟨by show use = s.len; omega, 3, fun y hy => .inr (by have := htwo y hy; exact ⟨by omega, by show wait (s.T + 1) y < ((3 : Nat) : Int); omega⟩), by omega⟩)))
    by_cases hdue : ∃ y ∈ s.O.l, y.x.n = (K : Int) ∧ dueB s.T 3 y = true
    · obtain ⟨y, hy, _, hd⟩ := hdue
      have hlp : 0 < (dueL s).length := List.length_pos_iff.2 (List.ne_nil_of_mem (dueL_has h60 hy hd))
      exact hfin 2 (fun y hy _ => htwo y hy) (by omega)
    · obtain ⟨y0, hy0, hx0⟩ := hk.sf.last he
      have hn0 : y0.x.n = (K : Int) := by rw [hx0]; rfl
      have hw0 := wait_pos (hk.sf.at_ y0 hy0) (fun e => hdue ⟨y0, hy0, hn0, e⟩)
      have hd1 : 1 ≤ d := by have := hW y0 hy0 hn0; omega
      refine hfin (d - 1) ?_ (by omega)
      intro y hy hn
      obtain ⟨z, hz, rfl⟩ := hsub y hy
      rw [mark_x] at hn
      have hw := wait_pos (hk.sf.at_ z hz) (fun e => hdue ⟨z, hz, hn, e⟩)
      have := hW z hz hn
      rw [hw.2.2.2, hw.2.2.1]
      omega
end
section
variable {K : Nat} {tx : Nat → ByteArray} {eD eA : Nat → ByteArray} {s : Ls} {G : List It}
theorem lv_start (h : Lk K tx eD eA s G) : Lv K eA 250 s := by
  have h1 := h.us
  have h2 := h.len
  by_cases hl : s.use = s.len
  · exact .inr (.inr (.inr (.inl ⟨hl, 3, fun y hy => .inr ⟨by omega, by have := wait_two (h.sf.at_ y hy); omega⟩, by omega⟩)))
  · exact .inr (.inr (.inr (.inr ⟨by omega, 2, fun y hy _ => wait_two (h.sf.at_ y hy), by omega⟩)))
theorem lv_zero (h : Lv K eA 0 s) : s.O.l = [] := by
  rcases h with h | ⟨h, _⟩ | ⟨_, _, d, _, h⟩ | ⟨_, d, _, h⟩ | ⟨_, d, _, h⟩
  · exact h
  all_goals omega
theorem lv_end (hk : Lk K tx eD eA s G) (h : Lv K eA 0 s) : s.O.l = [] ∧ s.O.acked = K ∧ G.length = K := by
  have h0 := lv_zero h
  have ht := hk.sf.tot
  rw [h0] at ht
  have ha : s.O.acked = K := by simpa using ht
  have := hk.sf.le1
  have := hk.sf.le2
  refine ⟨h0, ha, ?_⟩
  rw [hk.sf.got, List.length_map, List.length_range]
  omega
/-- The items that a law puts. -/
def putL (tx : Nat → ByteArray) (k : Nat) : List Snd := (List.range k).map fun i => ⟨itm tx (i + 1), false, 0⟩
theorem putL_succ (k : Nat) : putL tx (k + 1) = putL tx k ++ [⟨itm tx (k + 1), false, 0⟩] := by simp [putL, List.range_succ]
theorem putL_len (k : Nat) : (putL tx k).length = k := by simp [putL]
theorem lk_new (len : Nat) (hl : len ≤ 60) (cut : Bool) : Lk K tx eD eA ⟨0, 0, len, cut, [], ⟨0, putL tx K⟩, ⟨0, []⟩⟩ [] := by
  refine ⟨⟨by simp [putL], ?_, ?_, Nat.zero_le _, Nat.zero_le _, rfl, by simp⟩, by simp, ⟨by simp, by simp, by simp, by simp⟩, Nat.zero_le _, hl, ?_⟩
  · intro j y hy
    simp only [putL, List.getElem?_map] at hy
    cases hj : (List.range K)[j]? with
    | none => rw [hj] at hy; cases hy
    | some i =>
      rw [hj] at hy
      simp only [Option.map_some, Option.some.injEq] at hy
      have hi : i = j := by
        have := List.getElem?_eq_some_iff.1 hj
        obtain ⟨h1, h2⟩ := this
        rw [List.getElem_range] at h2
        exact h2.symm
      subst hi
      rw [← hy]
      show itm tx (i + 1) = itm tx (0 + i + 1)
      rw [Nat.zero_add]
  · intro y hy hs
    simp only [putL, List.mem_map] at hy
    obtain ⟨i, _, rfl⟩ := hy
    cases hs
  · rintro (h | ⟨x, hx, _⟩)
    · exact absurd h (by show ¬ 0 + 1 ≤ 0; omega)
    · cases hx
theorem Lk.cut_ (h : Lk K tx eD eA s G) (c : Bool) : Lk K tx eD eA { s with cut := c } G := ⟨h.sf, h.ok, h.ct, h.us, h.len, h.gap⟩
/-- A new inbox that knows what was taken. -/
theorem Lk.newIn (h : Lk K tx eD eA s G) : Lk K tx eD eA { s with m := ⟨s.m.taken, []⟩ } G := by
  refine ⟨⟨h.sf.tot, h.sf.item, h.sf.at_, h.sf.le1, h.sf.le2, h.sf.got, by simp⟩, h.ok, h.ct, h.us, h.len, ?_⟩
  rintro (h | ⟨x, hx, _⟩)
  · exact absurd h (by show ¬ s.m.taken + 1 ≤ s.m.taken; omega)
  · cases hx
def freshO (O : OutS) : OutS := ⟨O.acked, O.l.map fun y => ⟨y.x, false, 0⟩⟩
/-- A new outbox that has the pending items. -/
theorem Lk.newOut (h : Lk K tx eD eA s G) : Lk K tx eD eA { s with O := freshO s.O } G := by
  refine ⟨⟨by simp [freshO, h.sf.tot], ?_, ?_, h.sf.le1, h.sf.le2, h.sf.got, h.sf.hold⟩, h.ok, h.ct, h.us, h.len, h.gap⟩
  · intro j y hy
    simp only [freshO, List.getElem?_map] at hy
    cases hz : s.O.l[j]? with
    | none => rw [hz] at hy; cases hy
    | some z =>
      rw [hz] at hy
      simp only [Option.map_some, Option.some.injEq] at hy
      rw [← hy]
      exact h.sf.item j z hz
  · intro y hy hs
    simp only [freshO, List.mem_map] at hy
    obtain ⟨z, _, rfl⟩ := hy
    cases hs
/-- What was taken, is in order. -/
theorem Lk.right (h : Lk K tx eD eA s G) : G.length ≤ K ∧ ∀ i x, G[i]? = some x → x = itm tx (i + 1) := by
  refine ⟨?_, fun i x hx => ?_⟩
  · rw [h.sf.got, List.length_map, List.length_range]; exact h.sf.le2
  · rw [h.sf.got, List.getElem?_map] at hx
    cases hj : (List.range s.m.taken)[i]? with
    | none => rw [hj] at hx; cases hx
    | some q =>
      rw [hj] at hx
      simp only [Option.map_some, Option.some.injEq] at hx
      obtain ⟨h1, h2⟩ := List.getElem?_eq_some_iff.1 hj
      rw [List.getElem_range] at h2
      rw [← hx, ← h2]
end
end Go.Proofs.YthmndclmecnpmaaDoor
