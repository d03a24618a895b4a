/- Plain: the network's state against the list of the copies that are under way. -/
import Derived.Test.YthmndclmecnpmaaDoorWNetL
namespace Go.Proofs.YthmndclmecnpmaaDoor.Nw

/-- A copy that was not received. -/
structure Pc where
  at_ : Int
  pk : Int
  ix : Int
  fr : ByteArray
  to_ : ByteArray
  da : ByteArray
def Pc.cp (p : Pc) : Cp := ⟨p.at_, p.pk, p.ix, p.fr, p.da⟩
def Pc.ord (p q : Pc) : Prop := p.pk < q.pk ∨ (p.pk = q.pk ∧ p.ix < q.ix)
/-- The copies for a place, in the order in which they were sent. -/
def forP (P : List Pc) (s : ByteArray) : List Cp := (P.filter fun p => decide (p.to_ = s)).map Pc.cp

set_option maxRecDepth 100000 in
theorem forP_append (P Q : List Pc) (s : ByteArray) : forP (P ++ Q) s = forP P s ++ forP Q s := by simp [forP]

structure Rel (S : NetS) (P : List Pc) : Prop where
  heap : ∀ s, HeapN (S.qs s) (S.qs s).length
  perm : ∀ s, (S.qs s).Perm (forP P s)
  rest : ∀ s, s ∉ S.keys → S.qs s = []
  nodup : S.keys.Nodup
  pend : S.pend = P.length
  ord : P.Pairwise Pc.ord
  old : ∀ p ∈ P, p.pk < S.sent

def lts (a b : Cp) : Prop := Cp.lt a b = true

/-! What takeL gives. -/
set_option maxRecDepth 100000 in
theorem takeL_spec (now : Nat) : ∀ (f : Nat) (q : List Cp), q.length < f → HeapN q q.length →
    ((takeL now f q).1 ++ (takeL now f q).2).Perm q ∧ ((takeL now f q).1).Pairwise (fun a b => ¬ Cp.lt b a = true) ∧ (∀ x ∈ (takeL now f q).1, x.at_ ≤ now) ∧ (∀ x ∈ (takeL now f q).2, (now : Int) < x.at_) ∧ HeapN (takeL now f q).2 (takeL now f q).2.length
  | 0, q, h, _ => absurd h (by omega)
  | f + 1, q, h, hh => by
    unfold takeL
    by_cases hc : 0 < q.length ∧ (gq q 0).at_ ≤ now
    · rw [if_pos hc]
      have hl : ((popL q).take (q.length - 1)).length = q.length - 1 := by rw [List.length_take, popL_len]; omega
      have hp := popL_heap q hh hc.1
      have ih := takeL_spec now f ((popL q).take (q.length - 1)) (by omega) (by rw [hl]; exact hp)
      have hperm := popL_perm q hc.1
      obtain ⟨i1, i2, i3, i4, i5⟩ := ih
      refine ⟨?_, ?_, ?_, i4, i5⟩
      · simp only [List.cons_append]
        exact (i1.cons _).trans hperm
      · rw [List.pairwise_cons]
        refine ⟨fun x hx => ?_, i2⟩
        have hx1 : x ∈ (popL q).take (q.length - 1) := i1.subset (List.mem_append_left _ hx)
        have hx2 : x ∈ q := hperm.subset (List.mem_cons_of_mem _ hx1)
        obtain ⟨m, hm, rfl⟩ := List.mem_iff_getElem.1 hx2
        have := hh.min m hm
        simpa [gq, hm] using this
      · intro x hx
        rcases List.mem_cons.1 hx with rfl | hx
        · exact hc.2
        · exact i3 x hx
    · rw [if_neg hc]
      refine ⟨by simp, List.Pairwise.nil, by simp, ?_, hh⟩
      intro x hx
      replace hx : x ∈ q := hx
      obtain ⟨m, hm, rfl⟩ := List.mem_iff_getElem.1 hx
      have h0 : 0 < q.length := by omega
      have h1 : ¬ (gq q 0).at_ ≤ now := fun h1 => hc ⟨h0, h1⟩
      have := hh.min m hm
      rw [Cp.lt_iff] at this
      have e : gq q m = q[m] := by simp [gq, hm]
      rw [e] at this
      omega

/-- The copies that have arrived at a place, in the order in which they are received: by the step, then as they were sent. -/
def arrP (P : List Pc) (now : Int) (s : ByteArray) : List Cp := (forP P s).filter fun c => decide (c.at_ ≤ now)

set_option maxRecDepth 100000 in
theorem forP_ord {P : List Pc} (h : P.Pairwise Pc.ord) (s : ByteArray) : (forP P s).Pairwise (fun a b => a.pk < b.pk ∨ (a.pk = b.pk ∧ a.ix < b.ix)) := by
  unfold forP
  rw [List.pairwise_map]
  exact h.filter _

set_option maxRecDepth 100000 in
/-- Two lists with the same elements, both in order, are one: among copies with keys of their own. -/
theorem sorted_eq {l : List Cp} (hk : l.Pairwise (fun a b => a.pk < b.pk ∨ (a.pk = b.pk ∧ a.ix < b.ix))) {r r' : List Cp} (hr : r.Perm l) (hr' : r'.Perm l) (h : r.Pairwise (fun a b => ¬ Cp.lt b a = true)) (h' : r'.Pairwise (fun a b => ¬ Cp.lt b a = true)) : r = r' := by
  have key : ∀ a ∈ l, ∀ b ∈ l, ¬ Cp.lt a b = true → ¬ Cp.lt b a = true → a = b := by
    intro a ha b hb h1 h2
    rw [Cp.lt_iff] at h1 h2
    have hpk : a.pk = b.pk := by omega
    have hix : a.ix = b.ix := by omega
    obtain ⟨i, hi, rfl⟩ := List.mem_iff_getElem.1 ha
    obtain ⟨j, hj, rfl⟩ := List.mem_iff_getElem.1 hb
    rcases Nat.lt_trichotomy i j with hij | hij | hij
    · have := (List.pairwise_iff_getElem.1 hk) i j hi hj hij
      omega
    · subst hij; rfl
    · have := (List.pairwise_iff_getElem.1 hk) j i hj hi hij
      omega
  refine List.Perm.eq_of_pairwise (le := fun a b => ¬ Cp.lt b a = true) ?_ h h' (hr.trans hr'.symm)
  intro a b ha hb h1 h2
  exact key a (hr.subset ha) b (hr'.subset hb) h2 h1

set_option maxRecDepth 100000 in
theorem takeL_eq {S : NetS} {P : List Pc} (R : Rel S P) (s : ByteArray) (r : List Cp) (hr : r.Perm (arrP P S.now s)) (hs : r.Pairwise (fun a b => ¬ Cp.lt b a = true)) : (takeL S.now ((S.qs s).length + 1) (S.qs s)).1 = r := by
  obtain ⟨h1, h2, h3, h4, _⟩ := takeL_spec S.now ((S.qs s).length + 1) (S.qs s) (by omega) (R.heap s)
  have hp := h1.trans (R.perm s)
  have hf := hp.filter (fun c => decide (c.at_ ≤ (S.now : Int)))
  rw [List.filter_append, List.filter_eq_self.2 (fun x hx => by simpa using h3 x hx), List.filter_eq_nil_iff.2 (fun x hx => by have := h4 x hx; simp; omega), List.append_nil] at hf
  exact sorted_eq ((forP_ord R.ord s).filter _) hf hr h2 hs

set_option maxRecDepth 100000 in
/-- How many are received. -/
theorem take_len {S : NetS} {P : List Pc} (R : Rel S P) (s : ByteArray) : (netTake S s).length = (arrP P S.now s).length := by
  unfold netTake
  split
  · obtain ⟨h1, h2, h3, h4, _⟩ := takeL_spec S.now ((S.qs s).length + 1) (S.qs s) (by omega) (R.heap s)
    have hp := h1.trans (R.perm s)
    have hf := hp.filter (fun c => decide (c.at_ ≤ (S.now : Int)))
    rw [List.filter_append, List.filter_eq_self.2 (fun x hx => by simpa using h3 x hx), List.filter_eq_nil_iff.2 (fun x hx => by have := h4 x hx; simp; omega), List.append_nil] at hf
    exact hf.length_eq
  · rename_i hk
    have e := R.rest s hk
    have hp := R.perm s
    rw [e] at hp
    unfold arrP
    rw [List.nil_perm.1 hp]
    rfl


/-! The operations. -/
set_option maxRecDepth 100000 in
theorem rel_new (script : List UInt8) : Rel (newNet script) [] :=
  ⟨fun s m _ h => absurd h (by simp [newNet]), fun s => by simp [newNet, forP], fun s _ => rfl, List.nodup_nil, rfl, List.Pairwise.nil, by simp⟩
set_option maxRecDepth 100000 in
theorem rel_now {S : NetS} {P : List Pc} (R : Rel S P) (n : Nat) : Rel { S with now := n } P := ⟨R.heap, R.perm, R.rest, R.nodup, R.pend, R.ord, R.old⟩
set_option maxRecDepth 100000 in
theorem rel_link {S : NetS} {P : List Pc} (R : Rel S P) (a b : ByteArray) (v : Bool) (k : Nat) : Rel (S.link_ a b v k) P := ⟨R.heap, R.perm, R.rest, R.nodup, R.pend, R.ord, R.old⟩

set_option maxRecDepth 100000 in
theorem sum_put (S : NetS) (hn : S.keys.Nodup) (b : ByteArray) (hb : b ∈ S.keys) (q : List Cp) : (S.put b q).pend + (S.qs b).length = S.pend + q.length := by
  unfold NetS.pend
  have h1 := sum_strike (fun s => (S.qs s).length) (fun _ => true) b S.keys hn hb rfl
  have h2 := sum_strike (fun s => ((S.put b q).qs s).length) (fun _ => true) b S.keys hn hb rfl
  have ft : ∀ l : List ByteArray, l.filter (fun _ => true) = l := fun l => List.filter_eq_self.2 (fun _ _ => rfl)
  simp only [Bool.true_and, ft] at h1 h2
  have e : (S.keys.filter (fun s => decide (s ≠ b))).map (fun s => ((S.put b q).qs s).length) = (S.keys.filter (fun s => decide (s ≠ b))).map (fun s => (S.qs s).length) := by
    apply List.map_congr_left
    intro s hs
    have hne : s ≠ b := by simpa using (List.mem_filter.1 hs).2
    simp [NetS.put, hne]
  rw [e] at h2
  have e2 : ((S.put b q).qs b).length = q.length := by rw [put_at]
  rw [e2] at h2
  have e3 : (S.put b q).keys = S.keys := rfl
  rw [e3]
  omega

set_option maxRecDepth 100000 in
theorem rel_left {S : NetS} {P : List Pc} (R : Rel S P) (s : ByteArray) : Rel (netLeft S s) (P.filter fun p => !(decide (p.to_ = s) && decide (p.at_ ≤ (S.now : Int)))) := by
  have hfor : ∀ t, forP (P.filter fun p => !(decide (p.to_ = s) && decide (p.at_ ≤ (S.now : Int)))) t = if t = s then (forP P s).filter (fun c => !decide (c.at_ ≤ (S.now : Int))) else forP P t := by
    intro t
    unfold forP
    rw [List.filter_filter]
    by_cases e : t = s
    · rw [if_pos e, List.filter_map, List.filter_filter, e]
      congr 1
      apply List.filter_congr
      intro p _
      by_cases h1 : p.to_ = s <;> by_cases h2 : p.at_ ≤ (S.now : Int) <;> simp [h1, h2, Pc.cp]
    · rw [if_neg e]
      congr 1
      apply List.filter_congr
      intro p _
      by_cases h1 : p.to_ = t
      · have h2 : ¬ p.to_ = s := fun h => e (h1.symm.trans h)
        simp [h1, e]
      · simp [h1]
  unfold netLeft
  by_cases hk : s ∈ S.keys
  · rw [if_pos hk]
    obtain ⟨h1, h2, h3, h4, h5⟩ := takeL_spec S.now ((S.qs s).length + 1) (S.qs s) (by omega) (R.heap s)
    have hp := h1.trans (R.perm s)
    have hf := hp.filter (fun c => !decide (c.at_ ≤ (S.now : Int)))
    rw [List.filter_append, List.filter_eq_nil_iff.2 (fun x hx => by have := h3 x hx; simp [this]), List.nil_append, List.filter_eq_self.2 (fun x hx => by have := h4 x hx; simp; omega)] at hf
    have hlen : (takeL S.now ((S.qs s).length + 1) (S.qs s)).2.length + (takeL S.now ((S.qs s).length + 1) (S.qs s)).1.length = (S.qs s).length := by
      have := h1.length_eq
      rw [List.length_append] at this
      omega
    refine ⟨?_, ?_, ?_, R.nodup, ?_, R.ord.filter _, fun p hp => R.old p (List.mem_filter.1 hp).1⟩
    · intro t
      by_cases e : t = s
      · subst e; rw [put_at]; exact h5
      · have : (S.put s (takeL S.now ((S.qs s).length + 1) (S.qs s)).2).qs t = S.qs t := by simp [NetS.put, e]
        rw [this]; exact R.heap t
    · intro t
      rw [hfor]
      by_cases e : t = s
      · subst e; rw [put_at, if_pos rfl]; exact hf
      · have : (S.put s (takeL S.now ((S.qs s).length + 1) (S.qs s)).2).qs t = S.qs t := by simp [NetS.put, e]
        rw [this, if_neg e]; exact R.perm t
    · intro t ht
      have e : t ≠ s := fun e => ht (e ▸ hk)
      have : (S.put s (takeL S.now ((S.qs s).length + 1) (S.qs s)).2).qs t = S.qs t := by simp [NetS.put, e]
      rw [this]; exact R.rest t ht
    · have hs := sum_put S R.nodup s hk (takeL S.now ((S.qs s).length + 1) (S.qs s)).2
      have hl1 : (P.filter fun p => !(decide (p.to_ = s) && decide (p.at_ ≤ (S.now : Int)))).length + (takeL S.now ((S.qs s).length + 1) (S.qs s)).1.length = P.length := by
        have hf2 := hp.filter (fun c => decide (c.at_ ≤ (S.now : Int)))
        rw [List.filter_append, List.filter_eq_self.2 (fun x hx => by simpa using h3 x hx), List.filter_eq_nil_iff.2 (fun x hx => by have := h4 x hx; simp; omega), List.append_nil] at hf2
        rw [hf2.length_eq]
        unfold forP
        rw [List.filter_map, List.length_map, List.filter_filter]
        have e : (P.filter fun p => ((fun c => decide (c.at_ ≤ (S.now : Int))) ∘ Pc.cp) p && decide (p.to_ = s)) = P.filter fun p => (decide (p.to_ = s) && decide (p.at_ ≤ (S.now : Int))) := by
          apply List.filter_congr
          intro p _
          by_cases h1 : p.to_ = s <;> by_cases h2 : p.at_ ≤ (S.now : Int) <;> simp [h1, h2, Pc.cp]
        rw [e, ← List.countP_eq_length_filter, ← List.countP_eq_length_filter, Nat.add_comm]
        have ec := List.length_eq_countP_add_countP (fun p : Pc => (decide (p.to_ = s) && decide (p.at_ ≤ (S.now : Int)))) (l := P)
        rw [ec]
        congr 1
        apply List.countP_congr
        intro p _
        simp
      have := R.pend
      omega
  · rw [if_neg hk]
    have e0 := R.rest s hk
    have hp0 := R.perm s
    rw [e0] at hp0
    have hnil := List.nil_perm.1 hp0
    have : (P.filter fun p => !(decide (p.to_ = s) && decide (p.at_ ≤ (S.now : Int)))) = P := by
      rw [List.filter_eq_self]
      intro p hp
      have : ¬ p.to_ = s := by
        intro e
        have hm : p.cp ∈ forP P s := List.mem_map.2 ⟨p, List.mem_filter.2 ⟨hp, by simpa using e⟩, rfl⟩
        rw [hnil] at hm
        cases hm
      simp [this]
    rw [this]
    exact R

/-- The copies of a packet that is accepted. -/
def newP (S : NetS) (a b c : ByteArray) (l : List Int) (k : Nat) : List Pc := (List.range k).map fun i => ⟨S.now + l.getD i 0, S.sent, i, a, b, c⟩

set_option maxRecDepth 100000 in
theorem newP_succ (S : NetS) (a b c : ByteArray) (l : List Int) (k : Nat) : newP S a b c l (k + 1) = newP S a b c l k ++ [⟨S.now + l.getD k 0, S.sent, k, a, b, c⟩] := by
  simp [newP, List.range_succ]

set_option maxRecDepth 100000 in
theorem pushK_rel (S : NetS) (a b c : ByteArray) (l : List Int) : ∀ (k : Nat) (q : List Cp), HeapN q q.length → HeapN (pushK S.now S.sent a c l k q) (pushK S.now S.sent a c l k q).length ∧ (pushK S.now S.sent a c l k q).Perm (q ++ (newP S a b c l k).map Pc.cp)
  | 0, q, h => ⟨h, by simp [pushK, newP]⟩
  | k + 1, q, h => by
    obtain ⟨i1, i2⟩ := pushK_rel S a b c l k q h
    rw [pushK]
    refine ⟨by rw [pushL_len]; exact pushL_heap _ _ i1, ?_⟩
    refine (pushL_perm _ _).trans ?_
    rw [newP_succ, List.map_append, ← List.append_assoc]
    exact i2.append_right _

set_option maxRecDepth 100000 in
theorem rel_ok {S : NetS} {P : List Pc} (R : Rel S P) (a b c : ByteArray) : Rel (netOk S a b c) (P ++ newP S a b c (S.copies a b) (S.copies a b).length) := by
  obtain ⟨k1, k2⟩ := pushK_rel S a b c (S.copies a b) (S.copies a b).length (S.qs b) (R.heap b)
  have hfor : ∀ t, forP (newP S a b c (S.copies a b) (S.copies a b).length) t = if t = b then (newP S a b c (S.copies a b) (S.copies a b).length).map Pc.cp else [] := by
    intro t
    unfold forP newP
    by_cases e : t = b
    · rw [if_pos e, List.filter_eq_self.2]
      intro p hp
      obtain ⟨i, _, rfl⟩ := List.mem_map.1 hp
      simp [e]
    · rw [if_neg e, List.filter_eq_nil_iff.2]
      · rfl
      · intro p hp
        obtain ⟨i, _, rfl⟩ := List.mem_map.1 hp
        simp [Ne.symm e]
  have hqs : ∀ t, (netOk S a b c).qs t = if t = b then pushK S.now S.sent a c (S.copies a b) (S.copies a b).length (S.qs b) else S.qs t := fun t => rfl
  have hkeys : (netOk S a b c).keys = if b ∈ S.keys then S.keys else S.keys ++ [b] := rfl
  have hnd : (netOk S a b c).keys.Nodup := by
    rw [hkeys]
    split
    · exact R.nodup
    · rename_i hb
      rw [List.nodup_append]
      exact ⟨R.nodup, by simp, fun x hx y hy => by rw [List.mem_singleton] at hy; subst hy; exact fun e => hb (e ▸ hx)⟩
  refine ⟨?_, ?_, ?_, hnd, ?_, ?_, ?_⟩
  · intro t
    rw [hqs]
    by_cases e : t = b
    · rw [if_pos e]; exact k1
    · rw [if_neg e]; exact R.heap t
  · intro t
    rw [hqs, forP_append, hfor]
    by_cases e : t = b
    · rw [if_pos e, if_pos e, e]
      exact k2.trans ((R.perm b).append_right _)
    · rw [if_neg e, if_neg e, List.append_nil]; exact R.perm t
  · intro t ht
    rw [hqs]
    have hm : b ∈ (netOk S a b c).keys := with_mem S.used b
    have e : t ≠ b := fun e => ht (e ▸ hm)
    rw [if_neg e]
    refine R.rest t (fun h => ht ?_)
    rw [hkeys]
    split
    · exact h
    · exact List.mem_append_left _ h
  · have hw : (S.used.with_ b).pend = S.pend := by
      unfold NetS.pend
      have : (S.used.with_ b).keys = if b ∈ S.keys then S.keys else S.keys ++ [b] := rfl
      rw [this]
      split
      · rfl
      · rename_i hb
        rw [List.map_append, List.sum_append]
        have : (S.used.with_ b).qs b = [] := R.rest b hb
        simp [this]
        rfl
    have hndw : (S.used.with_ b).keys.Nodup := hnd
    have h1 := sum_put (S.used.with_ b) hndw b (with_mem S.used b) (pushK S.now S.sent a c (S.copies a b) (S.copies a b).length (S.qs b))
    have h2 : (netOk S a b c).pend = ((S.used.with_ b).put b (pushK S.now S.sent a c (S.copies a b) (S.copies a b).length (S.qs b))).pend := rfl
    have h3 : (S.used.with_ b).qs b = S.qs b := rfl
    rw [h3, hw, pushK_len] at h1
    rw [h2, List.length_append]
    have : (newP S a b c (S.copies a b) (S.copies a b).length).length = (S.copies a b).length := by simp [newP]
    have := R.pend
    omega
  · rw [List.pairwise_append]
    refine ⟨R.ord, ?_, ?_⟩
    · unfold newP
      rw [List.pairwise_map]
      refine List.pairwise_lt_range.imp ?_
      intro i j hij
      right
      exact ⟨rfl, by simpa using hij⟩
    · intro p hp q hq
      obtain ⟨i, _, rfl⟩ := List.mem_map.1 hq
      left
      exact R.old p hp
  · intro p hp
    have hs : (netOk S a b c).sent = S.sent + 1 := rfl
    rw [hs]
    rcases List.mem_append.1 hp with hp | hp
    · have := R.old p hp; omega
    · obtain ⟨i, _, rfl⟩ := List.mem_map.1 hp
      show (S.sent : Int) < _
      omega

end Go.Proofs.YthmndclmecnpmaaDoor.Nw
