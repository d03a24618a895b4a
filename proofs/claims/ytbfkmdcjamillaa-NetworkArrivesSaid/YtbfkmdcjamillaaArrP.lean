/- The plain part of the law NetworkArrives. -/
import Derived.Test.YtbfkmdcjamillaaPlcP
import Derived.Test.YtbfkmdcjamillaaRelP
namespace Go.Proofs.Ytbfkmdcjamillaa

/-- The byte of a script for a packet. -/
def btS (script : List UInt8) (i : Nat) : UInt8 := script.getD i 0
/-- How many of the first packets have no copy. -/
def lostN (script : List UInt8) : Nat → Nat
  | 0 => 0
  | j + 1 => lostN script j + if delaysL (btS script j) = [] then 1 else 0
theorem lostN_le (script : List UInt8) : ∀ j, lostN script j ≤ j
  | 0 => Nat.le_refl _
  | j + 1 => by have := lostN_le script j; unfold lostN; split <;> omega
def pkB (i : Nat) (k : Int) : Bool := decide (k = (i : Int))

structure Ar (script : List UInt8) (L : List Op4) (S : NetS) (P : List Pc) (j n : Nat) : Prop where
  good : Good S P n
  scr : S.script = script
  use : S.use = min j script.length
  cutB : ∀ x y, S.cutB x y = false
  sent : S.sent = j
  lost : S.lost = lostN script j
  len : P.length ≤ 2 * j
  at_ : ∀ q ∈ P, q.at_ ≤ S.now + 8
  own : ∀ q ∈ P, ∃ (i : Nat) (o : Op4), L[i]? = some o ∧ i < j ∧ q.pk = i ∧ q.fr = o.fr ∧ q.to_ = o.tp ∧ q.da = dataS i
  cnt : ∀ i, i < j → P.countP (fun q => pkB i q.pk) = (delaysL (btS script i)).length

theorem ar_new (script : List UInt8) (L : List Op4) (h : script.length ≤ 1000000000000000) : Ar script L (newNet script) [] 0 0 :=
  ⟨good_new script h, rfl, by simp [newNet], fun _ _ => rfl, rfl, rfl, by simp, by simp, by simp, fun i hi => absurd hi (by omega)⟩
theorem ar_copies {script : List UInt8} {L : List Op4} {S : NetS} {P : List Pc} {j n : Nat} (h : Ar script L S P j n) (a b : ByteArray) : S.copies a b = delaysL (btS script j) := by
  rw [copies_open (h.cutB a b)]
  congr 1
  unfold NetS.byte btS
  rw [h.scr, h.use]
  rcases Nat.le_total j script.length with h1 | h1
  · rw [Nat.min_eq_left h1]
  · rw [Nat.min_eq_right h1]
    simp [List.getD, h1]
theorem ar_send {script : List UInt8} {L : List Op4} {S : NetS} {P : List Pc} {j n : Nat} (h : Ar script L S P j n) (hj : j ≤ 1000) {o : Op4} (ho : L[j]? = some o) :
    netSendAll S o.fr o.tp (dataS j) = (0, netOk S o.fr o.tp (dataS j)) ∧ Ar script L (netOk S o.fr o.tp (dataS j)) (P ++ newP S o.fr o.tp (dataS j) (S.copies o.fr o.tp) (S.copies o.fr o.tp).length) (j + 1) (n + 1) := by
  have hl := h.len
  have h2 := copies_le S o.fr o.tp
  have hc := ar_copies h o.fr o.tp
  have hd := copies_bd S o.fr o.tp
  have hpk : ∀ q ∈ newP S o.fr o.tp (dataS j) (S.copies o.fr o.tp) (S.copies o.fr o.tp).length, q.pk = (j : Int) ∧ q.fr = o.fr ∧ q.to_ = o.tp ∧ q.da = dataS j ∧ q.at_ ≤ S.now + 8 := by
    intro q hq
    unfold newP at hq
    obtain ⟨i, hi, rfl⟩ := List.mem_map.1 hq
    have hi := List.mem_range.1 hi
    refine ⟨by show (S.sent : Int) = j; rw [h.sent], rfl, rfl, rfl, ?_⟩
    have hm : (S.copies o.fr o.tp)[i] ∈ S.copies o.fr o.tp := List.getElem_mem _
    have := (hd _ hm).2
    show (S.now : Int) + (S.copies o.fr o.tp).getD i 0 ≤ _
    rw [List.getD_eq_getElem?_getD, List.getElem?_eq_getElem hi, Option.getD_some]
    omega
  refine ⟨send_ok h.good (by unfold Op4.fr Op4.tp; rw [place4, place4]; rfl) (by rw [dataS_small]; omega) (by omega), ?_⟩
  refine ⟨good_ok h.good _ _ _ (by omega), ?_, ?_, ?_, ?_, ?_, ?_, ?_, ?_, ?_⟩
  · rw [ok_script]; exact h.scr
  · rw [ok_use, h.use, h.scr]; omega
  · intro x y; rw [cutB_ok]; exact h.cutB x y
  · rw [ok_sent, h.sent]
  · rw [ok_lost, hc, h.lost]; rfl
  · rw [List.length_append]; simp only [newP, List.length_map, List.length_range]; omega
  · intro q hq
    rw [ok_now]
    rcases List.mem_append.1 hq with hq | hq
    · exact h.at_ q hq
    · exact (hpk q hq).2.2.2.2
  · intro q hq
    rcases List.mem_append.1 hq with hq | hq
    · obtain ⟨i, o', h1, h2, h3⟩ := h.own q hq
      exact ⟨i, o', h1, by omega, h3⟩
    · obtain ⟨h1, h2, h3, h4, _⟩ := hpk q hq
      exact ⟨j, o, ho, by omega, h1, h2, h3, h4⟩
  · intro i hi
    rw [List.countP_append]
    by_cases e : i = j
    · subst e
      have e0 : P.countP (fun q => pkB i q.pk) = 0 := by
        rw [List.countP_eq_zero]
        intro q hq
        obtain ⟨i', _, _, hlt, hp, _⟩ := h.own q hq
        unfold pkB
        simp only [decide_eq_true_eq]
        omega
      have e1 : (newP S o.fr o.tp (dataS i) (S.copies o.fr o.tp) (S.copies o.fr o.tp).length).countP (fun q => pkB i q.pk) = (S.copies o.fr o.tp).length := by
        rw [List.countP_eq_length.2 (fun q hq => by unfold pkB; simp [(hpk q hq).1])]
        simp [newP]
      rw [e0, e1, hc, Nat.zero_add]
    · have e1 : (newP S o.fr o.tp (dataS j) (S.copies o.fr o.tp) (S.copies o.fr o.tp).length).countP (fun q => pkB i q.pk) = 0 := by
        rw [List.countP_eq_zero]
        intro q hq
        have := (hpk q hq).1
        unfold pkB
        simp only [decide_eq_true_eq]
        omega
      rw [e1, h.cnt i (by omega), Nat.add_zero]
theorem ar_step {script : List UInt8} {L : List Op4} {S : NetS} {P : List Pc} {j n : Nat} (h : Ar script L S P j n) : Ar script L { S with now := S.now + 1 } P j (n + 1) :=
  ⟨good_step h.good, h.scr, h.use, h.cutB, h.sent, h.lost, h.len, fun q hq => by have := h.at_ q hq; show q.at_ ≤ ((S.now + 1 : Nat) : Int) + 8; omega, h.own, h.cnt⟩

/-- What is left when the places below p have received theirs. -/
def lft (P : List Pc) (p : Nat) : List Pc := P.filter fun q => ! (List.range p).any fun k => decide (q.to_ = placeS k)
/-- What they have received, of packet i. -/
def sc (P : List Pc) (p i : Nat) : Nat := P.countP fun q => ((List.range p).any fun k => decide (q.to_ = placeS k)) && pkB i q.pk
/-- The state while the copies are received. -/
structure Af (script : List UInt8) (L : List Op4) (S : NetS) (P : List Pc) (p n : Nat) : Prop where
  good : Good S (lft P p) n
  at_ : ∀ q ∈ P, q.at_ ≤ S.now
  len : P.length ≤ 2 * L.length
  sent : S.sent = L.length
  lost : S.lost = lostN script L.length
  own : ∀ q ∈ P, ∃ (i : Nat) (o : Op4), L[i]? = some o ∧ q.pk = i ∧ q.fr = o.fr ∧ q.to_ = o.tp ∧ q.da = dataS i
  cnt : ∀ i, i < L.length → P.countP (fun q => pkB i q.pk) = (delaysL (btS script i)).length

theorem lft_zero (P : List Pc) : lft P 0 = P := by simp [lft]
theorem af_start {script : List UInt8} {L : List Op4} {S : NetS} {P : List Pc} {n m : Nat} (h : Ar script L S P L.length n) (hm : ∀ q ∈ P, q.at_ ≤ S.now) (hn : n ≤ m) : Af script L S P 0 m :=
  ⟨by rw [lft_zero]; exact h.good.mono hn, hm, h.len, h.sent, h.lost, fun q hq => by
    obtain ⟨i, o, h1, _, h3⟩ := h.own q hq
    exact ⟨i, o, h1, h3⟩, h.cnt⟩
section
variable {script : List UInt8} {L : List Op4} {S : NetS} {P : List Pc} {p n : Nat}
theorem Af.place (h : Af script L S P p n) {q : Pc} (hq : q ∈ P) : ∃ k, k < 4 ∧ q.to_ = placeS k := by
  obtain ⟨i, o, _, _, _, h4, _⟩ := h.own q hq
  exact ⟨_, Nat.mod_lt _ (by omega), h4⟩
theorem lft_for (h : Af script L S P p n) (hp : p < 4) : arrP (lft P p) S.now (placeS p) = forP P (placeS p) := by
  unfold arrP
  have e : forP (lft P p) (placeS p) = forP P (placeS p) := by
    unfold forP lft
    rw [List.filter_filter]
    congr 1
    apply List.filter_congr
    intro q _
    by_cases e : q.to_ = placeS p
    · have : ((List.range p).any fun k => decide (q.to_ = placeS k)) = false := by
        rw [List.any_eq_false]
        intro k hk
        have hk := List.mem_range.1 hk
        rw [e]
        intro h
        have h9 : p = k := placeS_inj hp (by omega) (of_decide_eq_true h)
        omega
      rw [this]; simp
    · simp [e]
  rw [e, List.filter_eq_self]
  intro c hc
  obtain ⟨q, hq, rfl⟩ := List.mem_map.1 hc
  have := h.at_ q (List.mem_filter.1 hq).1
  exact decide_eq_true this
theorem lft_succ (h : Af script L S P p n) : leftP (lft P p) S.now (placeS p) = lft P (p + 1) := by
  unfold leftP lft
  rw [List.filter_filter]
  apply List.filter_congr
  intro q hq
  have h1 := h.at_ q hq
  rw [List.range_succ, List.any_append]
  by_cases e : q.to_ = placeS p <;> simp [h1, e]
theorem lft_four (h : Af script L S P 4 n) : lft P 4 = [] := by
  unfold lft
  rw [List.filter_eq_nil_iff]
  intro q hq
  obtain ⟨k, hk, e⟩ := h.place hq
  simp only [Bool.not_eq_true', Bool.not_eq_false, List.any_eq_true, List.mem_range, decide_eq_true_eq]
  exact ⟨k, hk, e⟩
theorem af_left (h : Af script L S P p n) : Af script L (netLeft S (placeS p)) P (p + 1) n := by
  have hg := good_left h.good (placeS p)
  rw [lft_succ h] at hg
  exact ⟨hg, by rw [left_now]; exact h.at_, h.len, by rw [left_sent, h.sent], by rw [left_lost, h.lost], h.own, h.cnt⟩
theorem af_take (h : Af script L S P p n) (hp : p < 4) : (netTake S (placeS p)).Perm (forP P (placeS p)) := by
  have := (take_spec h.good.rel (placeS p)).1
  rwa [lft_for h hp] at this
theorem af_take_len (h : Af script L S P p n) (hp : p < 4) : (netTake S (placeS p)).length ≤ 2 * L.length := by
  rw [(af_take h hp).length_eq]
  unfold forP
  rw [List.length_map]
  exact Nat.le_trans (List.length_filter_le _ _) h.len
theorem af_got (h : Af script L S P p n) (hp : p < 4) {c : Cp} (hc : c ∈ netTake S (placeS p)) : ∃ (i : Nat) (o : Op4), L[i]? = some o ∧ c.pk = i ∧ c.fr = o.fr ∧ o.to_.toNat % 4 = p ∧ c.da = dataS i := by
  have hc := (af_take h hp).subset hc
  unfold forP at hc
  obtain ⟨q, hq, rfl⟩ := List.mem_map.1 hc
  obtain ⟨hq1, hq2⟩ := List.mem_filter.1 hq
  obtain ⟨i, o, h1, h2, h3, h4, h5⟩ := h.own q hq1
  refine ⟨i, o, h1, h2, h3, ?_, h5⟩
  have : q.to_ = placeS p := of_decide_eq_true hq2
  rw [h4] at this
  exact placeS_inj (Nat.mod_lt _ (by omega)) hp this
theorem sc_zero (P : List Pc) (i : Nat) : sc P 0 i = 0 := by
  unfold sc
  rw [List.countP_eq_zero]
  intro q _
  simp
theorem sc_succ (P : List Pc) (p i : Nat) (hp : p < 4) : sc P (p + 1) i = sc P p i + (forP P (placeS p)).countP (fun c => pkB i c.pk) := by
  unfold sc forP
  rw [List.countP_map]
  induction P with
  | nil => rfl
  | cons q P ih =>
    rw [List.countP_cons, List.countP_cons, ih, List.filter_cons]
    have key : (((List.range (p + 1)).any fun k => decide (q.to_ = placeS k)) && pkB i q.pk) = ((((List.range p).any fun k => decide (q.to_ = placeS k)) && pkB i q.pk) || (decide (q.to_ = placeS p) && pkB i q.pk)) := by
      rw [List.range_succ, List.any_append]
      cases pkB i q.pk <;> simp
    have dis : q.to_ = placeS p → ((List.range p).any fun k => decide (q.to_ = placeS k)) = false := by
      intro e
      rw [List.any_eq_false]
      intro k hk
      have hk := List.mem_range.1 hk
      rw [e]
      intro h
      have h9 : p = k := placeS_inj hp (by omega) (of_decide_eq_true h)
      omega
    rw [key]
    by_cases e : q.to_ = placeS p
    · rw [dis e]
      cases hb : pkB i q.pk <;> simp [e, hb, Function.comp, Pc.cp] <;> omega
    · cases hb : pkB i q.pk <;> simp [e] <;> (try split) <;> omega
theorem sc_four (h : Af script L S P 4 n) (i : Nat) (hi : i < L.length) : sc P 4 i = (delaysL (btS script i)).length := by
  rw [← h.cnt i hi]
  unfold sc
  apply List.countP_congr
  intro q hq
  obtain ⟨k, hk, e⟩ := h.place hq
  have : ((List.range 4).any fun k => decide (q.to_ = placeS k)) = true := by
    rw [List.any_eq_true]
    exact ⟨k, List.mem_range.2 hk, by simp [e]⟩
  rw [this, Bool.true_and]
theorem sc_le (P : List Pc) (p i : Nat) : sc P p i ≤ P.length := List.countP_le_length

/-- The counts while the copies of a place are gone through. -/
def seenL (P : List Pc) (p m : Nat) (G : List Cp) : List Value := (List.range m).map fun i => Value.int .i64 ((sc P p i + G.countP (fun c => pkB i c.pk) : Nat) : Int)
theorem seenL_len (P : List Pc) (p m : Nat) (G : List Cp) : (seenL P p m G).length = m := by simp [seenL]
theorem seenL_get (P : List Pc) (p m : Nat) (G : List Cp) (i : Nat) (hi : i < m) : (seenL P p m G)[i]? = some (Value.int .i64 ((sc P p i + G.countP (fun c => pkB i c.pk) : Nat) : Int)) := by
  unfold seenL
  rw [List.getElem?_map, List.getElem?_range hi]
  rfl
theorem seenL_start (P : List Pc) (m : Nat) : seenL P 0 m [] = List.replicate m (.int .i64 0) := by
  unfold seenL
  rw [List.eq_replicate_iff]
  refine ⟨by simp, fun v hv => ?_⟩
  obtain ⟨i, _, rfl⟩ := List.mem_map.1 hv
  rw [sc_zero]; rfl
theorem seenL_snoc (P : List Pc) (p m : Nat) (G : List Cp) (c : Cp) (i : Nat) (hi : c.pk = i) :
    seenL P p m (G ++ [c]) = (seenL P p m G).set i (Value.int .i64 (((sc P p i + G.countP (fun c => pkB i c.pk) : Nat) : Int) + 1)) := by
  apply List.ext_getElem?
  intro k
  by_cases hk : k < m
  · rw [seenL_get _ _ _ _ _ hk, List.getElem?_set, List.countP_append]
    by_cases e : i = k
    · subst e
      rw [if_pos rfl, if_pos (by rw [seenL_len]; exact hk)]
      have : [c].countP (fun c => pkB i c.pk) = 1 := by simp [pkB, hi]
      rw [this]
      congr 2
    · rw [if_neg e, seenL_get _ _ _ _ _ hk]
      have : [c].countP (fun c => pkB k c.pk) = 0 := by
        rw [List.countP_eq_zero]
        intro x hx
        rw [List.mem_singleton.1 hx, hi]
        unfold pkB
        simp only [decide_eq_true_eq]
        omega
      rw [this]
      rfl
  · rw [List.getElem?_eq_none (by rw [seenL_len]; omega), List.getElem?_eq_none (by rw [List.length_set, seenL_len]; omega)]
theorem seenL_next (h : Af script L S P p n) (hp : p < 4) (m : Nat) : seenL P p m (netTake S (placeS p)) = seenL P (p + 1) m [] := by
  unfold seenL
  apply List.map_congr_left
  intro i _
  rw [sc_succ P p i hp, (af_take h hp).countP_eq]
  simp
theorem af_pend (h : Af script L S P 4 n) : S.pend = 0 := by rw [h.good.rel.pend, lft_four h]; rfl
end

end Go.Proofs.Ytbfkmdcjamillaa
