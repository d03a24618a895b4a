/- The plain part of the law NetworkReliable. -/
import Derived.Test.YtbfkmdcjamillaaCutP
import Derived.Test.YtbfkmdcjamillaaPlace
import Derived.Test.YtbfkmdcjamillaaOps
namespace Go.Proofs.Ytbfkmdcjamillaa

def Op4.fr (o : Op4) : ByteArray := placeS (o.from_.toNat % 4)
def Op4.tp (o : Op4) : ByteArray := placeS (o.to_.toNat % 4)
def Op4.dt (o : Op4) : ByteArray := dataS o.data.toNat

theorem place4 (k : Nat) : placeB (placeS (k % 4)) = true := by
  have h : k % 4 = 0 ∨ k % 4 = 1 ∨ k % 4 = 2 ∨ k % 4 = 3 := by omega
  rcases h with e | e | e | e <;> rw [e] <;> decide +kernel

/-- The network after the packets. -/
def rls (L : List Op4) : NetS := L.foldl (fun S o => netOk S o.fr o.tp o.dt) (newNet [])
def rpc (i : Nat) (o : Op4) : Pc := ⟨1, i, 0, o.fr, o.tp, o.dt⟩
def rps (L : List Op4) : List Pc := L.mapIdx rpc

theorem rls_snoc (L : List Op4) (o : Op4) : rls (L ++ [o]) = netOk (rls L) o.fr o.tp o.dt := by simp [rls]
theorem rps_snoc (L : List Op4) (o : Op4) : rps (L ++ [o]) = rps L ++ [rpc L.length o] := by simp [rps]
theorem rps_len (L : List Op4) : (rps L).length = L.length := by simp [rps]

structure Rl (S : NetS) (L : List Op4) : Prop where
  good : Good S (rps L) L.length
  now : S.now = 0
  lost : S.lost = 0
  sent : S.sent = L.length
  script : S.script = []
  cutB : ∀ x y, S.cutB x y = false

theorem rl_nil : Rl (rls []) [] := ⟨good_new [] (by simp), rfl, rfl, rfl, rfl, fun _ _ => rfl⟩
theorem rl_copies {S : NetS} {L : List Op4} (h : Rl S L) (o : Op4) : S.copies o.fr o.tp = [1] := copies_one (h.cutB _ _) h.script
theorem rl_send {S : NetS} {L : List Op4} (h : Rl S L) (hl : L.length ≤ 4000) (o : Op4) : netSendAll S o.fr o.tp o.dt = (0, netOk S o.fr o.tp o.dt) :=
  send_ok h.good (by rw [Op4.fr, Op4.tp, place4, place4]; rfl) (by rw [Op4.dt, dataS_small]; omega) (by rw [rl_copies h, rps_len]; simp only [List.length_singleton]; omega)
theorem rl_snoc {S : NetS} {L : List Op4} (h : Rl S L) (hl : L.length ≤ 4000) (o : Op4) : Rl (netOk S o.fr o.tp o.dt) (L ++ [o]) := by
  have hc := rl_copies h o
  have hg := good_ok h.good o.fr o.tp o.dt (by rw [hc, rps_len]; simp only [List.length_singleton]; omega)
  rw [hc] at hg
  have e : newP S o.fr o.tp o.dt [1] [(1 : Int)].length = [rpc L.length o] := by simp [newP, rpc, h.now, h.sent]
  rw [e, ← rps_snoc] at hg
  refine ⟨?_, ?_, ?_, ?_, ?_, ?_⟩
  · rw [List.length_append, List.length_singleton]; exact hg
  · rw [ok_now]; exact h.now
  · rw [ok_lost, hc, h.lost]; rfl
  · rw [ok_sent, h.sent, List.length_append, List.length_singleton]
  · rw [ok_script]; exact h.script
  · intro x y; rw [cutB_ok]; exact h.cutB x y

theorem take_snoc {L : List Op4} {i : Nat} {o : Op4} (h : L[i]? = some o) : L.take (i + 1) = L.take i ++ [o] := by
  rw [List.take_add_one, h]; rfl
theorem rps_take {L : List Op4} {i : Nat} {o : Op4} (h : L[i]? = some o) : ∃ R, rps L = rps (L.take i) ++ rpc i o :: R := by
  have hi : i < L.length := (List.getElem?_eq_some_iff.1 h).1
  have e : L = L.take i ++ o :: L.drop (i + 1) := by
    have h2 : L[i] = o := by rw [List.getElem?_eq_getElem hi] at h; exact Option.some.inj h
    rw [← h2, List.getElem_cons_drop, List.take_append_drop]
  have hl : (L.take i).length = i := by rw [List.length_take]; omega
  have h1 : rps L = rps (L.take i ++ o :: L.drop (i + 1)) := congrArg rps e
  have h2 : rps (L.take i ++ o :: L.drop (i + 1)) = rps (L.take i) ++ rpc i o :: (L.drop (i + 1)).mapIdx fun j x => rpc (j + 1 + i) x := by
    unfold rps
    rw [List.mapIdx_append, List.mapIdx_cons, hl, Nat.zero_add]
  exact ⟨_, h1.trans h2⟩

/-- The packets for a place. -/
def rgot (L : List Op4) (s : ByteArray) : List Cp := forP (rps L) s
def cntTo (L : List Op4) (s : ByteArray) : Nat := L.countP fun o => decide (o.tp = s)
theorem rgot_len (L : List Op4) (s : ByteArray) : (rgot L s).length = cntTo L s := by
  have key : ∀ (L : List Op4) (n : Nat), ((L.mapIdx fun i o => rpc (i + n) o).filter fun p => decide (p.to_ = s)).length = L.countP fun o => decide (o.tp = s) := by
    intro L
    induction L with
    | nil => intro n; rfl
    | cons o L ih =>
      intro n
      rw [List.mapIdx_cons, List.filter_cons, List.countP_cons]
      have e : (fun i o => rpc (i + 1 + n) o) = fun i o => rpc (i + (n + 1)) o := by funext i o; congr 1; omega
      rw [e]
      have : (rpc (0 + n) o).to_ = o.tp := rfl
      rw [this]
      by_cases h : o.tp = s
      · simp only [h, decide_true, if_true, List.length_cons]; rw [ih]
      · simp only [h, decide_false, Bool.false_eq_true, if_false]; rw [ih]; rfl
  unfold rgot forP
  rw [List.length_map]
  exact key L 0
theorem rgot_at {L : List Op4} {i : Nat} {o : Op4} (h : L[i]? = some o) : (rgot L o.tp)[cntTo (L.take i) o.tp]? = some ⟨1, i, 0, o.fr, o.dt⟩ := by
  obtain ⟨R, e⟩ := rps_take h
  have hg : rgot L o.tp = rgot (L.take i) o.tp ++ (⟨1, i, 0, o.fr, o.dt⟩ :: (R.filter fun p => decide (p.to_ = o.tp)).map Pc.cp) := by
    unfold rgot forP
    rw [e, List.filter_append, List.map_append, List.filter_cons]
    simp [rpc, Pc.cp]
  rw [hg, List.getElem?_append_right (by rw [rgot_len]; exact Nat.le_refl _), rgot_len, Nat.sub_self]
  rfl

/-- The copies that are left when the places below p have received theirs. -/
def rleft (L : List Op4) (p : Nat) : List Pc := (rps L).filter fun q => ! (List.range p).any fun k => decide (q.to_ = placeS k)
theorem rleft_zero (L : List Op4) : rleft L 0 = rps L := by simp [rleft]
theorem rps_mem {L : List Op4} {q : Pc} (h : q ∈ rps L) : q.at_ = 1 ∧ ∃ k, k < 4 ∧ q.to_ = placeS k := by
  unfold rps at h
  obtain ⟨i, hi, rfl⟩ := List.mem_mapIdx.1 h
  exact ⟨rfl, _, Nat.mod_lt _ (by omega), rfl⟩
theorem rleft_four (L : List Op4) : rleft L 4 = [] := by
  unfold rleft
  rw [List.filter_eq_nil_iff]
  intro q hq
  obtain ⟨_, k, hk, e⟩ := rps_mem hq
  simp only [Bool.not_eq_true', Bool.not_eq_false, List.any_eq_true, List.mem_range, decide_eq_true_eq]
  exact ⟨k, hk, e⟩
theorem rleft_succ (L : List Op4) (p : Nat) : leftP (rleft L p) 1 (placeS p) = rleft L (p + 1) := by
  unfold leftP rleft
  rw [List.filter_filter]
  apply List.filter_congr
  intro q hq
  have h1 := (rps_mem hq).1
  rw [List.range_succ, List.any_append]
  by_cases e : q.to_ = placeS p <;> simp [h1, e]
theorem rleft_for (L : List Op4) (p : Nat) (hp : p < 4) : arrP (rleft L p) 1 (placeS p) = rgot L (placeS p) := by
  unfold arrP rgot
  have e : forP (rleft L p) (placeS p) = forP (rps L) (placeS p) := by
    unfold forP rleft
    rw [List.filter_filter]
    congr 1
    apply List.filter_congr
    intro q hq
    by_cases e : q.to_ = placeS p
    · have : ((List.range p).any fun k => decide (q.to_ = placeS k)) = false := by
        rw [List.any_eq_false]
        intro k hk
        have hk := List.mem_range.1 hk
        rw [e]
        intro h
        have h9 : p = k := placeS_inj hp (by omega) (of_decide_eq_true h)
        omega
      simp [e]
      rw [← e]
      simpa using this
    · simp [e]
  rw [e, List.filter_eq_self]
  intro c hc
  obtain ⟨q, hq, rfl⟩ := List.mem_map.1 hc
  have := (rps_mem (List.mem_filter.1 hq).1).1
  simp [Pc.cp, this]
theorem rgot_sorted {L : List Op4} (s : ByteArray) (ho : (rps L).Pairwise Pc.ord) : (rgot L s).Pairwise (fun a b => ¬ Cp.lt b a = true) := by
  have h := forP_ord ho s
  unfold rgot
  have hall : ∀ c ∈ forP (rps L) s, c.at_ = 1 := by
    intro c hc
    obtain ⟨q, hq, rfl⟩ := List.mem_map.1 hc
    exact (rps_mem (List.mem_filter.1 hq).1).1
  refine h.imp_of_mem ?_
  intro a b ha hb hab
  rw [Cp.lt_iff]
  have := hall a ha
  have := hall b hb
  omega

/-- The state while packets are received: those for the places below p are gone. -/
structure Rr (S : NetS) (L : List Op4) (p : Nat) : Prop where
  good : Good S (rleft L p) (L.length + 1)
  now : S.now = 1
  lost : S.lost = 0
  sent : S.sent = L.length
theorem rr_start {S : NetS} {L : List Op4} (h : Rl S L) : Rr { S with now := 1 } L 0 :=
  ⟨by rw [rleft_zero]; exact good_now (h.good.mono (by omega)) (by omega), rfl, h.lost, h.sent⟩
theorem rr_take {S : NetS} {L : List Op4} {p : Nat} (h : Rr S L p) (ho : (rps L).Pairwise Pc.ord) (hp : p < 4) : netTake S (placeS p) = rgot L (placeS p) := by
  refine take_eq h.good.rel _ _ ?_ (rgot_sorted _ ho)
  rw [h.now, Int.natCast_one, rleft_for L p hp]
theorem rr_left {S : NetS} {L : List Op4} {p : Nat} (h : Rr S L p) : Rr (netLeft S (placeS p)) L (p + 1) := by
  have hg := good_left h.good (placeS p)
  rw [h.now, Int.natCast_one, rleft_succ] at hg
  exact ⟨hg, by rw [left_now, h.now], by rw [left_lost, h.lost], by rw [left_sent, h.sent]⟩
theorem rr_none {S : NetS} {L : List Op4} {p : Nat} (h : Rr S L (p + 1)) : (netTake S (placeS p)).length = 0 := by
  rw [take_len h.good.rel]
  unfold arrP forP rleft
  rw [List.filter_filter, List.filter_eq_nil_iff.2]
  · rfl
  · intro c hc
    obtain ⟨q, hq, rfl⟩ := List.mem_map.1 hc
    have h2 := (List.mem_filter.1 hq).2
    rw [List.range_succ, List.any_append] at h2
    by_cases e : q.to_ = placeS p <;> simp [e] at h2
theorem rr_same {S : NetS} {L : List Op4} {p : Nat} (h : Rr S L (p + 1)) : Rr (netLeft S (placeS p)) L (p + 1) := by
  have hg := good_left h.good (placeS p)
  have e : leftP (rleft L (p + 1)) S.now (placeS p) = rleft L (p + 1) := by
    unfold leftP
    rw [List.filter_eq_self]
    intro q hq
    have := (List.mem_filter.1 hq).2
    rw [List.range_succ, List.any_append] at this
    by_cases e : q.to_ = placeS p
    · simp [e] at this
    · simp [e]
  rw [e] at hg
  exact ⟨hg, by rw [left_now, h.now], by rw [left_lost, h.lost], by rw [left_sent, h.sent]⟩
theorem rr_pend {S : NetS} {L : List Op4} (h : Rr S L 4) : S.pend = 0 := by rw [h.good.rel.pend, rleft_four]; rfl
/-- Before the step nothing arrives. -/
theorem rl_none {S : NetS} {L : List Op4} (h : Rl S L) (s : ByteArray) : (netTake S s).length = 0 := by
  rw [take_len h.good.rel]
  unfold arrP forP
  rw [List.filter_eq_nil_iff.2]
  · rfl
  · intro c hc
    obtain ⟨q, hq, rfl⟩ := List.mem_map.1 hc
    have := (rps_mem (List.mem_filter.1 hq).1).1
    rw [h.now]
    simp [Pc.cp, this]
theorem rl_left {S : NetS} {L : List Op4} (h : Rl S L) (s : ByteArray) : Rl (netLeft S s) L := by
  have hg := good_left h.good s
  have e : leftP (rps L) S.now s = rps L := by
    unfold leftP
    rw [List.filter_eq_self]
    intro q hq
    have := (rps_mem hq).1
    rw [h.now]
    simp [this]
  rw [e] at hg
  exact ⟨hg, by rw [left_now, h.now], by rw [left_lost, h.lost], by rw [left_sent, h.sent], by rw [left_script, h.script], fun x y => by have := h.cutB x y; unfold NetS.cutB at *; rw [left_cut]; exact this⟩

end Go.Proofs.Ytbfkmdcjamillaa
