/- Plain: the law's model of a network, and how it runs beside the network's state. -/
import Derived.Test.YtbfkmdcjamillaaCutP
namespace Go.Proofs.Ytbfkmdcjamillaa

/-- The state of the model. -/
structure LinkS where
  script : List UInt8
  now : Nat
  sent : Nat
  lost : Nat
  pcs : List Pc
  cuts : List (ByteArray × ByteArray)

/-- Whether a link that is cut is the one between two places. -/
def hitB (a b : ByteArray) (c : ByteArray × ByteArray) : Bool := decide (linkS a b = linkS c.1 c.2)
theorem hit_iff {a b : ByteArray} {c : ByteArray × ByteArray} : hitB a b c = true ↔ (c.1 = a ∧ c.2 = b) ∨ (c.1 = b ∧ c.2 = a) := by
  unfold hitB
  rw [decide_eq_true_eq]
  constructor
  · intro h
    rcases linkS_inj h with ⟨h1, h2⟩ | ⟨h1, h2⟩
    · exact .inl ⟨h1.symm, h2.symm⟩
    · exact .inr ⟨h2.symm, h1.symm⟩
  · rintro (⟨h1, h2⟩ | ⟨h1, h2⟩)
    · rw [h1, h2]
    · rw [h1, h2, linkS_comm]
def LinkS.cutI (L : LinkS) (a b : ByteArray) : Option Nat := L.cuts.findIdx? (hitB a b)
theorem cutI_some {L : LinkS} {a b : ByteArray} (h : (L.cutI a b).isSome = true) : L.cuts.any (hitB a b) = true := by
  unfold LinkS.cutI at h
  rw [List.findIdx?_isSome] at h
  exact h
theorem cutI_any (L : LinkS) (a b : ByteArray) : (L.cutI a b).isSome = L.cuts.any (hitB a b) := by
  unfold LinkS.cutI
  rw [List.findIdx?_isSome]

def LinkS.byte (L : LinkS) : UInt8 := L.script.getD L.sent 0
def LinkS.copies (L : LinkS) (a b : ByteArray) : List Int := if (L.cutI a b).isSome = true then [] else delaysL L.byte
def newM (now sent : Nat) (a b c : ByteArray) (l : List Int) (k : Nat) : List Pc := (List.range k).map fun i => ⟨now + l.getD i 0, sent, i, a, b, c⟩
def mSend (L : LinkS) (a b c : ByteArray) : Int × LinkS :=
  if (placeB a && placeB b) = false then (12, L)
  else if 4096 < L.pcs.length + (L.copies a b).length then (9, L)
  else (0, { L with sent := L.sent + 1, lost := L.lost + (if (L.copies a b).length = 0 then 1 else 0), pcs := L.pcs ++ newM L.now L.sent a b c (L.copies a b) (L.copies a b).length })

/-- The copies for a place that arrive at a step; those that are left behind some steps. -/
def outB (s : ByteArray) (k : Nat) (p : Pc) : Bool := decide (p.to_ = s) && decide (p.at_ = (k : Int))
def outK (P : List Pc) (s : ByteArray) (k : Nat) : List Cp := (P.filter (outB s k)).map Pc.cp
def outR (P : List Pc) (s : ByteArray) (n : Nat) : List Cp := (List.range n).flatMap (outK P s)
def restN (P : List Pc) (s : ByteArray) (n : Nat) : List Pc := P.filter fun p => !(decide (p.to_ = s) && decide (p.at_ < (n : Int)))
def mRecv (L : LinkS) (s : ByteArray) : List Cp × LinkS := (outR L.pcs s (L.now + 1), { L with pcs := restN L.pcs s (L.now + 1) })
def mCut (L : LinkS) (a b : ByteArray) : LinkS := if (L.cutI a b).isSome = true then L else { L with cuts := L.cuts ++ [(a, b)] }
def mJoin (L : LinkS) (a b : ByteArray) : LinkS := match L.cutI a b with
  | some i => { L with cuts := L.cuts.take i ++ L.cuts.drop (i + 1) }
  | none => L

theorem outR_succ (P : List Pc) (s : ByteArray) (n : Nat) : outR P s (n + 1) = outR P s n ++ outK P s n := by
  simp [outR, List.range_succ]
theorem restN_zero {P : List Pc} (h : ∀ p ∈ P, 0 ≤ p.at_) (s : ByteArray) : restN P s 0 = P := by
  unfold restN
  rw [List.filter_eq_self]
  intro p hp
  have := h p hp
  simp
  exact .inr this
theorem restN_succ (P : List Pc) (s : ByteArray) (n : Nat) : restN P s (n + 1) = (restN P s n).filter (fun p => !outB s n p) := by
  unfold restN outB
  rw [List.filter_filter]
  apply List.filter_congr
  intro p _
  by_cases h1 : p.to_ = s
  · by_cases h2 : p.at_ = (n : Int)
    · simp [h1, h2]; omega
    · simp [h1, h2]; omega
  · simp [h1]
theorem outK_rest (P : List Pc) (s : ByteArray) (n : Nat) : outK (restN P s n) s n = outK P s n := by
  unfold outK restN
  rw [List.filter_filter]
  congr 1
  apply List.filter_congr
  intro p _
  unfold outB
  by_cases h1 : p.to_ = s
  · by_cases h2 : p.at_ = (n : Int)
    · simp [h1, h2]
    · simp [h2]
  · simp [h1]

theorem filter_split {α : Type} (p q r : α → Bool) : ∀ l : List α, (∀ x ∈ l, r x = (p x || q x)) → (∀ x ∈ l, (p x && q x) = false) → (l.filter r).Perm (l.filter p ++ l.filter q)
  | [], _, _ => List.Perm.refl _
  | x :: l, h1, h2 => by
    have ih := filter_split p q r l (fun y hy => h1 y (by simp [hy])) (fun y hy => h2 y (by simp [hy]))
    have e1 := h1 x (by simp)
    have e2 := h2 x (by simp)
    cases hp : p x <;> cases hq : q x
    · rw [hp, hq] at e1
      simp only [Bool.or_self] at e1
      rw [List.filter_cons_of_neg (by simp [e1]), List.filter_cons_of_neg (by simp [hp]), List.filter_cons_of_neg (by simp [hq])]
      exact ih
    · rw [hp, hq] at e1
      rw [List.filter_cons_of_pos (by simp [e1]), List.filter_cons_of_neg (by simp [hp]), List.filter_cons_of_pos (by simp [hq])]
      exact (ih.cons x).trans List.perm_middle.symm
    · rw [hp, hq] at e1
      rw [List.filter_cons_of_pos (by simp [e1]), List.filter_cons_of_pos (by simp [hp]), List.filter_cons_of_neg (by simp [hq])]
      exact ih.cons x
    · rw [hp, hq] at e2
      cases e2
theorem outR_perm (s : ByteArray) {P : List Pc} (h0 : ∀ p ∈ P, 0 ≤ p.at_) : ∀ n : Nat, (outR P s n).Perm ((P.filter fun p => decide (p.to_ = s) && decide (p.at_ < (n : Int))).map Pc.cp)
  | 0 => by
    rw [List.filter_eq_nil_iff.2]
    · exact List.Perm.refl _
    · intro p hp
      have := h0 p hp
      simp
      intro _
      omega
  | n + 1 => by
    rw [outR_succ]
    refine ((outR_perm s h0 n).append_right _).trans ?_
    unfold outK
    rw [← List.map_append]
    apply List.Perm.map
    apply List.Perm.symm
    apply filter_split
    · intro p _
      unfold outB
      by_cases h1 : p.to_ = s
      · have : decide (p.at_ < ((n + 1 : Nat) : Int)) = (decide (p.at_ < (n : Int)) || decide (p.at_ = (n : Int))) := by
          rw [Bool.eq_iff_iff]
          simp
          omega
        simp [h1]
        rw [Bool.eq_iff_iff]
        simp
        omega
      · simp [h1]
    · intro p _
      unfold outB
      rw [Bool.and_eq_false_iff]
      by_cases h2 : p.at_ = (n : Int)
      · left; simp; intro _; omega
      · right; simp [h2]
theorem outR_arr {S : NetS} {P : List Pc} (h0 : ∀ p ∈ P, 0 ≤ p.at_) (s : ByteArray) : (outR P s (S.now + 1)).Perm (arrP P S.now s) := by
  refine (outR_perm s h0 _).trans ?_
  have : arrP P S.now s = (P.filter fun p => decide (p.to_ = s) && decide (p.at_ < ((S.now + 1 : Nat) : Int))).map Pc.cp := by
    unfold arrP forP
    rw [List.filter_map, List.filter_filter]
    congr 1
    apply List.filter_congr
    intro p _
    have : decide ((p.cp).at_ ≤ (S.now : Int)) = decide (p.at_ < ((S.now + 1 : Nat) : Int)) := by
      apply decide_eq_decide.2
      show p.at_ ≤ _ ↔ _
      omega
    simp only [Function.comp_apply, this]
    exact Bool.and_comm _ _
  rw [this]
theorem outR_sorted {P : List Pc} (hp : P.Pairwise Pc.ord) (s : ByteArray) (n : Nat) : (outR P s n).Pairwise (fun a b => ¬ Cp.lt b a = true) := by
  have hat : ∀ k, ∀ c ∈ outK P s k, c.at_ = (k : Int) := by
    intro k c hc
    obtain ⟨p, hp, rfl⟩ := List.mem_map.1 hc
    have := (List.mem_filter.1 hp).2
    unfold outB at this
    simp at this
    exact this.2
  unfold outR
  rw [List.pairwise_flatMap]
  refine ⟨fun k _ => ?_, ?_⟩
  · unfold outK
    rw [List.pairwise_map]
    refine List.Pairwise.imp_of_mem ?_ (hp.filter (outB s k))
    intro a b ha hb hab
    have h1 := hat k a.cp (List.mem_map_of_mem ha)
    have h2 := hat k b.cp (List.mem_map_of_mem hb)
    rw [Cp.lt_iff]
    unfold Pc.ord at hab
    unfold Pc.cp at *
    simp only at *
    omega
  · refine List.Pairwise.imp ?_ List.pairwise_lt_range
    intro i j hij a ha b hb
    have h1 := hat i a ha
    have h2 := hat j b hb
    rw [Cp.lt_iff]
    omega

/-- The network's state and the model's. -/
structure Run (S : NetS) (P : List Pc) (L : LinkS) (q : Nat) : Prop where
  good : Good S P q
  pcs : L.pcs = P
  script : L.script = S.script
  now : L.now = S.now
  sent : L.sent = S.sent
  lost : L.lost = S.lost
  use : S.use = min S.sent S.script.length
  pos : ∀ p ∈ P, 0 ≤ p.at_
  cuts : ∀ x y, S.cutB x y = L.cuts.any (hitB x y)
  uniq : L.cuts.Pairwise fun c d => hitB c.1 c.2 d = false
  ncuts : L.cuts.length ≤ q
  few : P.length ≤ 2 * q

theorem run_new (X : List UInt8) (h : X.length ≤ 1000000000000000) : Run (newNet X) [] ⟨X, 0, 0, 0, [], []⟩ 0 :=
  ⟨good_new X h, rfl, rfl, rfl, rfl, rfl, by simp [newNet], by simp, fun _ _ => rfl, List.Pairwise.nil, Nat.le_refl _, by simp⟩
theorem run_byte {S : NetS} {P : List Pc} {L : LinkS} {q : Nat} (h : Run S P L q) : L.byte = S.byte := by
  unfold LinkS.byte NetS.byte
  rw [h.script, h.sent, h.use]
  by_cases hs : S.sent ≤ S.script.length
  · rw [Nat.min_eq_left hs]
  · rw [Nat.min_eq_right (by omega), List.getD_eq_getElem?_getD, List.getD_eq_getElem?_getD, List.getElem?_eq_none (by omega), List.getElem?_eq_none (by omega)]
theorem run_copies {S : NetS} {P : List Pc} {L : LinkS} {q : Nat} (h : Run S P L q) (a b : ByteArray) : L.copies a b = S.copies a b := by
  unfold LinkS.copies
  rw [cutI_any, ← h.cuts, run_byte h]
  rfl
theorem run_mono {S : NetS} {P : List Pc} {L : LinkS} {q r : Nat} (h : Run S P L q) (hr : q ≤ r) : Run S P L r :=
  ⟨h.good.mono hr, h.pcs, h.script, h.now, h.sent, h.lost, h.use, h.pos, h.cuts, h.uniq, Nat.le_trans h.ncuts hr, by have := h.few; omega⟩
theorem run_send {S : NetS} {P : List Pc} {L : LinkS} {q : Nat} (h : Run S P L q) (hq : q ≤ 1000) (a b c : ByteArray) (hc : c.size ≤ 1048576) : ∃ S' P', netSendAll S a b c = ((mSend L a b c).1, S') ∧ Run S' P' (mSend L a b c).2 (q + 1) := by
  by_cases hp : (placeB a && placeB b) = false
  · refine ⟨S, P, ?_, ?_⟩
    · rw [send_bad S c hp]; unfold mSend; rw [if_pos hp]
    · unfold mSend; rw [if_pos hp]; exact run_mono h (by omega)
  · have hcl := delaysL_le S.byte
    have hl : (S.copies a b).length ≤ 2 := by
      unfold NetS.copies
      split
      · simp
      · exact hcl
    have hfew := h.few
    have hm : mSend L a b c = (0, { L with sent := L.sent + 1, lost := L.lost + (if (S.copies a b).length = 0 then 1 else 0), pcs := P ++ newP S a b c (S.copies a b) (S.copies a b).length }) := by
      unfold mSend
      rw [if_neg hp, run_copies h, h.pcs, if_neg (by omega), h.now, h.sent]
      rfl
    refine ⟨netOk S a b c, P ++ newP S a b c (S.copies a b) (S.copies a b).length, ?_, ?_⟩
    · rw [send_ok h.good (by simpa using hp) hc (by omega), hm]
    · rw [hm]
      refine ⟨good_ok h.good a b c (by omega), rfl, ?_, ?_, ?_, ?_, ?_, ?_, ?_, h.uniq, Nat.le_succ_of_le h.ncuts, ?_⟩
      · rw [ok_script]; exact h.script
      · rw [ok_now]; exact h.now
      · rw [ok_sent]; simp only []; rw [h.sent]
      · rw [ok_lost]; simp only []; rw [h.lost]; congr 1
        by_cases e : S.copies a b = []
        · rw [if_pos e, if_pos (by rw [e]; rfl)]
        · rw [if_neg e, if_neg (fun x => e (List.eq_nil_of_length_eq_zero x))]
      · rw [ok_use, ok_sent, ok_script, h.use]; omega
      · intro p hp
        rcases List.mem_append.1 hp with hp | hp
        · exact h.pos p hp
        · obtain ⟨i, hi, rfl⟩ := List.mem_map.1 hp
          rw [List.mem_range] at hi
          have hd : ∀ d ∈ S.copies a b, 1 ≤ d ∧ d ≤ 8 := by
            unfold NetS.copies
            split
            · simp
            · exact delaysL_bd _
          have := hd ((S.copies a b).getD i 0) (by rw [List.getD_eq_getElem?_getD, List.getElem?_eq_getElem hi]; exact List.getElem_mem hi)
          simp only []
          omega
      · intro x y
        rw [cutB_ok]
        exact h.cuts x y
      · rw [List.length_append]
        simp [newP]
        omega
theorem run_step {S : NetS} {P : List Pc} {L : LinkS} {q : Nat} (h : Run S P L q) : Run { S with now := S.now + 1 } P { L with now := L.now + 1 } (q + 1) :=
  ⟨good_step h.good, h.pcs, h.script, by simp only []; rw [h.now], h.sent, h.lost, h.use, h.pos, h.cuts, h.uniq, Nat.le_succ_of_le h.ncuts, by have := h.few; omega⟩
theorem run_recv {S : NetS} {P : List Pc} {L : LinkS} {q : Nat} (h : Run S P L q) (s : ByteArray) : netTake S s = (mRecv L s).1 ∧ Run (netLeft S s) (leftP P S.now s) (mRecv L s).2 q := by
  refine ⟨?_, ?_⟩
  · unfold mRecv
    rw [h.pcs, h.now]
    exact take_eq h.good.rel s _ (outR_arr h.pos s) (outR_sorted h.good.rel.ord s _)
  · have hl : leftP P S.now s = restN P s (S.now + 1) := by
      unfold leftP restN
      apply List.filter_congr
      intro p _
      have : decide (p.at_ ≤ (S.now : Int)) = decide (p.at_ < ((S.now + 1 : Nat) : Int)) := decide_eq_decide.2 (by omega)
      rw [this]
    refine ⟨good_left h.good s, ?_, ?_, ?_, ?_, ?_, ?_, ?_, ?_, h.uniq, h.ncuts, ?_⟩
    · unfold mRecv; simp only []; rw [hl, h.pcs, h.now]
    · rw [left_script]; exact h.script
    · rw [left_now]; exact h.now
    · rw [left_sent]; exact h.sent
    · rw [left_lost]; exact h.lost
    · rw [left_use, left_sent, left_script]; exact h.use
    · intro p hp; exact h.pos p (List.mem_filter.1 hp).1
    · intro x y
      unfold NetS.cutB
      rw [left_cut]
      exact h.cuts x y
    · have h1 : (leftP P S.now s).length ≤ P.length := List.length_filter_le _ _
      have := h.few
      omega
theorem hit_congr {x y a b : ByteArray} (h : linkS x y = linkS a b) : hitB x y = hitB a b := by
  funext c
  unfold hitB
  rw [h]
theorem run_cut {S : NetS} {P : List Pc} {L : LinkS} {q : Nat} (h : Run S P L q) (a b : ByteArray) : Run (S.link_ a b true 1) P (mCut L a b) (q + 1) := by
  have hg := good_link h.good a b true 1 (by have := h.good.ncut; omega)
  have hfew := h.few
  unfold mCut
  by_cases hc : (L.cutI a b).isSome = true
  · rw [if_pos hc]
    refine ⟨hg, h.pcs, h.script, h.now, h.sent, h.lost, h.use, h.pos, fun x y => ?_, h.uniq, Nat.le_succ_of_le h.ncuts, by omega⟩
    rw [cutB_link]
    by_cases e : linkS x y = linkS a b
    · rw [if_pos e, hit_congr e, cutI_some hc]
    · rw [if_neg e]; exact h.cuts x y
  · rw [if_neg hc]
    have hn : L.cuts.any (hitB a b) = false := by rw [← cutI_any]; simpa using hc
    refine ⟨hg, h.pcs, h.script, h.now, h.sent, h.lost, h.use, h.pos, fun x y => ?_, ?_, ?_, by omega⟩
    · rw [cutB_link, List.any_append]
      by_cases e : linkS x y = linkS a b
      · rw [if_pos e]
        simp [hitB, e]
      · rw [if_neg e, h.cuts x y]
        simp [hitB, e]
    · rw [List.pairwise_append]
      refine ⟨h.uniq, by simp, fun c hc d hd => ?_⟩
      rw [List.mem_singleton] at hd
      subst hd
      rw [List.any_eq_false] at hn
      have := hn c hc
      unfold hitB at this ⊢
      simp at this ⊢
      exact fun e => this e.symm
    · rw [List.length_append]
      have := h.ncuts
      simp
      exact this
theorem run_join {S : NetS} {P : List Pc} {L : LinkS} {q : Nat} (h : Run S P L q) (a b : ByteArray) : Run (S.link_ a b false 0) P (mJoin L a b) q := by
  have hg := good_link h.good a b false 0 (by have := h.good.ncut; omega)
  unfold mJoin
  cases hc : L.cutI a b with
  | none =>
    simp only []
    have hn : L.cuts.any (hitB a b) = false := by rw [← cutI_any, hc]; rfl
    refine ⟨hg, h.pcs, h.script, h.now, h.sent, h.lost, h.use, h.pos, fun x y => ?_, h.uniq, h.ncuts, h.few⟩
    rw [cutB_link]
    by_cases e : linkS x y = linkS a b
    · rw [if_pos e, hit_congr e, hn]
    · rw [if_neg e]; exact h.cuts x y
  | some i =>
    simp only []
    unfold LinkS.cutI at hc
    obtain ⟨hi, h1, h2⟩ := List.findIdx?_eq_some_iff_getElem.1 hc
    have hsp : L.cuts = L.cuts.take i ++ L.cuts[i] :: L.cuts.drop (i + 1) := by
      rw [← List.drop_eq_getElem_cons hi, List.take_append_drop]
    have hci : linkS a b = linkS L.cuts[i].1 L.cuts[i].2 := by
      unfold hitB at h1
      simpa using h1
    have hu := h.uniq
    rw [hsp, List.pairwise_append, List.pairwise_cons] at hu
    obtain ⟨u1, ⟨u2, u3⟩, u4⟩ := hu
    refine ⟨hg, h.pcs, h.script, h.now, h.sent, h.lost, h.use, h.pos, fun x y => ?_, ?_, ?_, h.few⟩
    · rw [cutB_link]
      by_cases e : linkS x y = linkS a b
      · rw [if_pos e, hit_congr e, eq_comm, List.any_eq_false]
        intro d hd
        rcases List.mem_append.1 hd with hd | hd
        · obtain ⟨j, hj, rfl⟩ := List.mem_iff_getElem.1 hd
          rw [List.length_take] at hj
          rw [List.getElem_take]
          have := h2 j (by omega)
          simpa using this
        · have := u2 d hd
          unfold hitB at this ⊢
          rw [hci]
          simpa using this
      · rw [if_neg e, h.cuts x y]
        conv => lhs; rw [hsp]
        rw [List.any_append, List.any_cons, List.any_append]
        have : hitB x y L.cuts[i] = false := by
          unfold hitB
          rw [← hci]
          simpa using e
        rw [this, Bool.false_or]
    · rw [List.pairwise_append]
      exact ⟨u1, u3, fun c hc d hd => u4 c hc d (List.mem_cons_of_mem _ hd)⟩
    · have := h.ncuts
      rw [List.length_append, List.length_take, List.length_drop]
      omega
/-- The numbers of both agree. -/
theorem run_counts {S : NetS} {P : List Pc} {L : LinkS} {q : Nat} (h : Run S P L q) : S.now = L.now ∧ S.pend = L.pcs.length ∧ S.sent = L.sent ∧ S.lost = L.lost :=
  ⟨h.now.symm, by rw [h.pcs]; exact h.good.rel.pend, h.sent.symm, h.lost.symm⟩

end Go.Proofs.Ytbfkmdcjamillaa
