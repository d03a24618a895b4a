/- The plain part of the law NetworkFull (for M = 4095, which stays a variable so that nothing counts up to it). -/
import Derived.Test.YtbfkmdcjamillaaCutP
import Derived.Test.YtbfkmdcjamillaaErrP
namespace Go.Proofs.Ytbfkmdcjamillaa

def nil0 : ByteArray := ⟨#[]⟩
def fuX (M : Nat) : List UInt8 := List.replicate M 0 ++ [2, 0, 3, 2]
def fu (M : Nat) : Nat → NetS
  | 0 => newNet (fuX M)
  | k + 1 => netOk (fu M k) sA sB nil0
def fp (M : Nat) : Nat → List Pc
  | 0 => []
  | k + 1 => fp M k ++ newP (fu M k) sA sB nil0 ((fu M k).copies sA sB) ((fu M k).copies sA sB).length

section
variable {M : Nat}
theorem fuX_len : (fuX M).length = M + 4 := by simp [fuX]
theorem fuX_zero (k : Nat) (h : k < M) : (fuX M).getD k 0 = 0 := by
  unfold fuX
  rw [List.getD_eq_getElem?_getD, List.getElem?_append_left (by simpa using h), List.getElem?_replicate, if_pos h]
  rfl
theorem fuX_two : (fuX M).getD M 0 = 2 := by
  unfold fuX
  rw [List.getD_eq_getElem?_getD, List.getElem?_append_right (by simp), List.length_replicate, Nat.sub_self]
  rfl

theorem fu_script : ∀ k, (fu M k).script = fuX M
  | 0 => rfl
  | k + 1 => by rw [fu, ok_script]; exact fu_script k
theorem fu_cut : ∀ k x y, (fu M k).cutB x y = false
  | 0, _, _ => rfl
  | k + 1, x, y => by rw [fu, cutB_ok]; exact fu_cut k x y
theorem fu_now : ∀ k, (fu M k).now = 0
  | 0 => rfl
  | k + 1 => by rw [fu, ok_now]; exact fu_now k
theorem fu_sent : ∀ k, (fu M k).sent = k
  | 0 => rfl
  | k + 1 => by rw [fu, ok_sent, fu_sent k]
theorem fu_use : ∀ k, k ≤ M → (fu M k).use = k
  | 0, _ => rfl
  | k + 1, h => by rw [fu, ok_use, fu_use k (by omega), fu_script, fuX_len]; omega
theorem fu_copies (k : Nat) (h : k < M) : (fu M k).copies sA sB = [1] := by
  rw [copies_open (fu_cut k _ _)]
  unfold NetS.byte
  rw [fu_script, fu_use k (by omega), fuX_zero k h]
  decide +kernel
theorem fu_copies2 : ((fu M M).copies sA sB).length = 2 := by
  rw [copies_open (fu_cut M _ _)]
  unfold NetS.byte
  rw [fu_script, fu_use M (Nat.le_refl _), fuX_two]
  decide +kernel

theorem fp_all : ∀ k, k ≤ M → (fp M k).length = k ∧ ∀ p ∈ fp M k, p.to_ = sB ∧ p.at_ = 1
  | 0, _ => ⟨rfl, fun p h => by cases h⟩
  | k + 1, h => by
    obtain ⟨h1, h2⟩ := fp_all k (by omega)
    rw [fp, fu_copies k (by omega)]
    refine ⟨by rw [List.length_append, h1]; simp [newP], fun p hp => ?_⟩
    rcases List.mem_append.1 hp with hp | hp
    · exact h2 p hp
    · simp [newP, fu_now] at hp
      subst hp
      exact ⟨rfl, rfl⟩
theorem fu_good (hM : M = 4095) : ∀ k, k ≤ M → Good (fu M k) (fp M k) k
  | 0, _ => good_new (fuX M) (by rw [fuX_len]; omega)
  | k + 1, h => good_ok (fu_good hM k (by omega)) sA sB nil0 (by rw [(fp_all k (by omega)).1, fu_copies k (by omega)]; simp only [List.length_singleton]; omega)
theorem fu_send (hM : M = 4095) (k : Nat) (h : k < M) : netSendAll (fu M k) sA sB nil0 = (0, fu M (k + 1)) :=
  send_ok (fu_good hM k (by omega)) (by decide) (by decide) (by rw [(fp_all k (by omega)).1, fu_copies k h]; simp only [List.length_singleton]; omega)
theorem fu_full (hM : M = 4095) : netSendAll (fu M M) sA sB nil0 = (9, fu M M) :=
  send_full (fu_good hM M (by omega)) (by decide) (by decide) (by rw [(fp_all M (by omega)).1, fu_copies2]; omega)
theorem fu_pend (hM : M = 4095) : (fu M M).pend = M := by rw [(fu_good hM M (by omega)).rel.pend, (fp_all M (by omega)).1]
def fu1 (M : Nat) : NetS := { fu M M with now := 1 }
def fu2 (M : Nat) : NetS := netLeft (fu1 M) sB
theorem fu1_good (hM : M = 4095) : Good (fu1 M) (fp M M) M := good_now (fu_good hM M (by omega)) (by omega)
theorem fu1_take (hM : M = 4095) : (netTake (fu1 M) sB).length = M := by
  rw [take_len (fu1_good hM).rel]
  obtain ⟨h1, h2⟩ := fp_all (M := M) M (by omega)
  unfold arrP forP
  rw [List.filter_eq_self.2 (fun c hc => ?_), List.length_map, List.filter_eq_self.2 (fun p hp => by simp [(h2 p hp).1]), h1]
  obtain ⟨p, hp, rfl⟩ := List.mem_map.1 hc
  have hp := (List.mem_filter.1 hp).1
  have : (fu1 M).now = 1 := rfl
  simp [Pc.cp, (h2 p hp).2, this]
theorem fu2_left : leftP (fp M M) 1 sB = [] := by
  obtain ⟨h1, h2⟩ := fp_all (M := M) M (by omega)
  unfold leftP
  rw [List.filter_eq_nil_iff]
  intro p hp
  simp [(h2 p hp).1, (h2 p hp).2]
theorem fu2_good (hM : M = 4095) : Good (fu2 M) [] M := by
  have := good_left (fu1_good hM) sB
  have e : leftP (fp M M) (fu1 M).now sB = [] := fu2_left
  rw [e] at this
  exact this
theorem fu2_copies : ((fu2 M).copies sA sB).length = 2 := by
  have h : (fu2 M).copies sA sB = (fu M M).copies sA sB := by
    unfold NetS.copies NetS.byte fu2
    rw [left_cut, left_use, left_script]
    rfl
  rw [h, fu_copies2]
theorem fu2_send (hM : M = 4095) (c : ByteArray) (hc : c.size ≤ 255) : netSendAll (fu2 M) sA sB c = (0, netOk (fu2 M) sA sB c) :=
  send_ok (fu2_good hM) (by decide) (by omega) (by rw [fu2_copies]; decide)
theorem fu3_pend (hM : M = 4095) (c : ByteArray) : (netOk (fu2 M) sA sB c).pend = 2 := by
  have h := good_ok (fu2_good hM) sA sB c (by rw [fu2_copies]; decide)
  rw [h.rel.pend]
  simp [newP, fu2_copies]
theorem fu3_sent (c : ByteArray) : (netOk (fu2 M) sA sB c).sent = M + 1 := by
  rw [ok_sent]
  unfold fu2
  rw [left_sent]
  show (fu M M).sent + 1 = M + 1
  rw [fu_sent]
end
end Go.Proofs.Ytbfkmdcjamillaa
