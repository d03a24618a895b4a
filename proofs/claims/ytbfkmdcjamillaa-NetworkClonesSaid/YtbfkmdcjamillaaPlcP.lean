/- The plain part of the law NetworkPlaces; what is received, as a permutation of what has arrived. -/
import Derived.Test.YtbfkmdcjamillaaCutP
import Derived.Test.YtbfkmdcjamillaaPlace
namespace Go.Proofs.Ytbfkmdcjamillaa

theorem take_spec {S : NetS} {P : List Pc} (R : Rel S P) (s : ByteArray) : (netTake S s).Perm (arrP P S.now s) ∧ (netTake S s).Pairwise (fun a b => ¬ Cp.lt b a = true) := by
  unfold netTake
  split
  · obtain ⟨h1, h2, h3, h4, _⟩ := takeL_spec S.now ((S.qs s).length + 1) (S.qs s) (by omega) (R.heap s)
    have hp := h1.trans (R.perm s)
    have hf := hp.filter (fun c => decide (c.at_ ≤ (S.now : Int)))
    rw [List.filter_append, List.filter_eq_self.2 (fun x hx => by simpa using h3 x hx), List.filter_eq_nil_iff.2 (fun x hx => by have := h4 x hx; simp; omega), List.append_nil] at hf
    exact ⟨hf, h2⟩
  · rename_i hk
    have e := R.rest s hk
    have hp := R.perm s
    rw [e] at hp
    unfold arrP
    rw [List.nil_perm.1 hp]
    exact ⟨.refl _, .nil⟩

/-- Two networks that agree but for what is received at places other than the fourth. -/
structure Pl (A B : NetS) (j : Nat) : Prop where
  ex : ∃ P Q, Good A P j ∧ Good B Q j ∧ P.length ≤ 2 * j ∧ Q.length ≤ 2 * j ∧ forP P (placeS 3) = forP Q (placeS 3)
  now : A.now = B.now
  sent : A.sent = B.sent
  script : A.script = B.script
  use : A.use = B.use
  cut : A.cut = B.cut

theorem pl_new (script : List UInt8) (h : script.length ≤ 1000000000000000) : Pl (newNet script) (newNet script) 0 :=
  ⟨⟨[], [], good_new script h, good_new script h, by simp, by simp, rfl⟩, rfl, rfl, rfl, rfl, rfl⟩
theorem Pl.small {A B : NetS} {j : Nat} (h : Pl A B j) (hj : j ≤ 1000) : Small A ∧ Small B := by
  obtain ⟨P, Q, ga, gb, _, _, _⟩ := h.ex
  exact ⟨ga.small (by omega), gb.small (by omega)⟩
theorem pl_copies {A B : NetS} {j : Nat} (h : Pl A B j) (a b : ByteArray) : A.copies a b = B.copies a b := by
  unfold NetS.copies NetS.byte
  rw [h.cut, h.script, h.use]
theorem pl_send {A B : NetS} {j : Nat} (h : Pl A B j) (hj : j ≤ 1000) (a b c : ByteArray) (hc : c.size ≤ 1048576) :
    (netSendAll A a b c).1 = (netSendAll B a b c).1 ∧ Pl (netSendAll A a b c).2 (netSendAll B a b c).2 (j + 1) := by
  obtain ⟨P, Q, ga, gb, la, lb, hf⟩ := h.ex
  by_cases hp : (placeB a && placeB b) = true
  · have h1 := copies_le A a b
    have h2 := copies_le B a b
    rw [send_ok ga hp hc (by omega), send_ok gb hp hc (by omega)]
    refine ⟨rfl, ⟨_, _, good_ok ga a b c (by omega), good_ok gb a b c (by omega), ?_, ?_, ?_⟩, ?_, ?_, ?_, ?_, ?_⟩
    · rw [List.length_append]; simp only [newP, List.length_map, List.length_range]; omega
    · rw [List.length_append]; simp only [newP, List.length_map, List.length_range]; omega
    · rw [forP_append, forP_append, hf, pl_copies h a b]
      unfold newP
      rw [h.now, h.sent]
    · rw [ok_now, ok_now, h.now]
    · rw [ok_sent, ok_sent, h.sent]
    · rw [ok_script, ok_script, h.script]
    · rw [ok_use, ok_use, h.use, h.script]
    · rw [ok_cut, ok_cut, h.cut]
  · have hp' : (placeB a && placeB b) = false := by simpa using hp
    rw [send_bad A c hp', send_bad B c hp']
    exact ⟨rfl, ⟨P, Q, ga.mono (by omega), gb.mono (by omega), by omega, by omega, hf⟩, h.now, h.sent, h.script, h.use, h.cut⟩
theorem pl_step {A B : NetS} {j : Nat} (h : Pl A B j) : Pl { A with now := A.now + 1 } { B with now := B.now + 1 } (j + 1) := by
  obtain ⟨P, Q, ga, gb, la, lb, hf⟩ := h.ex
  exact ⟨⟨P, Q, good_step ga, good_step gb, by omega, by omega, hf⟩, by show A.now + 1 = B.now + 1; rw [h.now], h.sent, h.script, h.use, h.cut⟩
theorem pl_left {A B : NetS} {j : Nat} (h : Pl A B j) (s : ByteArray) (hs : s ≠ placeS 3) : Pl A (netLeft B s) j := by
  obtain ⟨P, Q, ga, gb, la, lb, hf⟩ := h.ex
  refine ⟨⟨P, _, ga, good_left gb s, la, ?_, ?_⟩, ?_, ?_, ?_, ?_, ?_⟩
  · unfold leftP; exact Nat.le_trans (List.length_filter_le _ _) lb
  · rw [hf]
    unfold forP leftP
    rw [List.filter_filter]
    congr 1
    apply List.filter_congr
    intro q _
    by_cases e : q.to_ = placeS 3
    · have : q.to_ ≠ s := fun e2 => hs (e2.symm.trans e)
      simp [e]
      exact .inl (fun e3 => hs e3.symm)
    · simp [e]
  · rw [left_now, h.now]
  · rw [left_sent, h.sent]
  · rw [left_script, h.script]
  · rw [left_use, h.use]
  · rw [left_cut, h.cut]
theorem pl_take {A B : NetS} {j : Nat} (h : Pl A B j) : netTake A (placeS 3) = netTake B (placeS 3) := by
  obtain ⟨P, Q, ga, gb, la, lb, hf⟩ := h.ex
  obtain ⟨h1, h2⟩ := take_spec gb.rel (placeS 3)
  refine take_eq ga.rel (placeS 3) _ ?_ h2
  have e : arrP P A.now (placeS 3) = arrP Q B.now (placeS 3) := by unfold arrP; rw [hf, h.now]
  rw [e]
  exact h1
theorem pl_take_len {A B : NetS} {j : Nat} (h : Pl A B j) (hj : j ≤ 1000) : (netTake A (placeS 3)).length ≤ 2000 := by
  obtain ⟨P, Q, ga, gb, la, lb, hf⟩ := h.ex
  rw [take_len ga.rel]
  unfold arrP forP
  refine Nat.le_trans (List.length_filter_le _ _) ?_
  rw [List.length_map]
  refine Nat.le_trans (List.length_filter_le _ _) (by omega)
theorem place3 (k : Nat) : placeS (k % 3) ≠ placeS 3 := by
  intro e
  have := placeS_inj (by omega) (by omega) e
  omega

end Go.Proofs.Ytbfkmdcjamillaa
