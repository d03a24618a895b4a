/- The plain part of the law NetworkCuts. -/
import Derived.Test.YtbfkmdcjamillaaNetPlain2
namespace Go.Proofs.Ytbfkmdcjamillaa

/-- Whether a link is cut. -/
def NetS.cutB (S : NetS) (x y : ByteArray) : Bool := S.cut (linkS x y).1 (linkS x y).2
theorem cutB_link (S : NetS) (a b : ByteArray) (v : Bool) (k : Nat) (x y : ByteArray) : (S.link_ a b v k).cutB x y = if linkS x y = linkS a b then v else S.cutB x y := by
  unfold NetS.cutB NetS.link_
  by_cases h : linkS x y = linkS a b
  · simp [h]
  · have : ¬ ((linkS x y).1 = (linkS a b).1 ∧ (linkS x y).2 = (linkS a b).2) := fun e => h (Prod.ext e.1 e.2)
    simp [h, this]
theorem cutB_ok (S : NetS) (a b c x y : ByteArray) : (netOk S a b c).cutB x y = S.cutB x y := rfl
theorem copies_cut {S : NetS} {x y : ByteArray} (h : S.cutB x y = true) : S.copies x y = [] := by
  unfold NetS.copies
  unfold NetS.cutB at h
  rw [if_pos h]
theorem copies_open {S : NetS} {x y : ByteArray} (h : S.cutB x y = false) : S.copies x y = delaysL S.byte := by
  unfold NetS.copies
  unfold NetS.cutB at h
  rw [if_neg (by simp [h])]
theorem copies_one {S : NetS} {x y : ByteArray} (h : S.cutB x y = false) (hs : S.script = []) : S.copies x y = [1] := by
  rw [copies_open h]
  unfold NetS.byte
  rw [hs]
  show delaysL 0 = [1]
  decide +kernel

theorem take_eq {S : NetS} {P : List Pc} (R : Rel S P) (s : ByteArray) (r : List Cp) (hr : r.Perm (arrP P S.now s)) (hs : r.Pairwise (fun a b => ¬ Cp.lt b a = true)) : netTake S s = r := by
  unfold netTake
  split
  · exact takeL_eq R s r hr hs
  · rename_i hk
    have e := R.rest s hk
    have hp := R.perm s
    rw [e] at hp
    unfold arrP at hr
    rw [List.nil_perm.1 hp] at hr
    exact (List.perm_nil.1 hr).symm

def c0 : ByteArray := ⟨#[48]⟩
def c1 : ByteArray := ⟨#[49]⟩
def c2 : ByteArray := ⟨#[50]⟩
def c3 : ByteArray := ⟨#[51]⟩
def c4 : ByteArray := ⟨#[52]⟩
def ct0 : NetS := newNet []
def ct1 (a b : ByteArray) : NetS := netOk ct0 a b c0
def ct2 (a b : ByteArray) : NetS := ((ct1 a b).link_ b a true 1).link_ a b true 1
def ct3 (a b : ByteArray) : NetS := netOk (ct2 a b) a b c1
def ct4 (a b : ByteArray) : NetS := netOk (ct3 a b) b a c2
def ct5 (a b o : ByteArray) (k : Bool) : NetS := if k then netOk (ct4 a b) a o c3 else ct4 a b
def ct6 (a b o : ByteArray) (k : Bool) : NetS := (ct5 a b o k).link_ a b false 0
def ct7 (a b o : ByteArray) (k : Bool) : NetS := netOk (ct6 a b o k) b a c4
def ct8 (a b o : ByteArray) (k : Bool) : NetS := { ct7 a b o k with now := 1 }
def ct9 (a b o : ByteArray) (k : Bool) : NetS := netLeft (ct8 a b o k) b

structure Places3 (a b o : ByteArray) (k : Bool) : Prop where
  ga : placeB a = true
  gb : placeB b = true
  go : placeB o = true
  gk : k = true → o ≠ a ∧ o ≠ b

section
variable {a b o : ByteArray} {k : Bool}

theorem ct0_good : Good ct0 [] 0 := good_new [] (by decide)
theorem ct0_send (h : Places3 a b o k) : netSendAll ct0 a b c0 = (0, ct1 a b) := send_ok ct0_good (by rw [h.ga, h.gb]; rfl) (by decide) (by rw [copies_one rfl rfl]; decide)
theorem ct1_good (_h : Places3 a b o k) : Good (ct1 a b) [⟨1, 0, 0, a, b, c0⟩] 1 := by
  have := good_ok ct0_good a b c0 (by rw [copies_one rfl rfl]; decide)
  rw [copies_one rfl rfl] at this
  exact this
theorem ct2_cut (x y : ByteArray) : (ct2 a b).cutB x y = decide (linkS x y = linkS a b) := by
  unfold ct2
  rw [cutB_link, cutB_link, linkS_comm b a]
  by_cases h : linkS x y = linkS a b
  · simp [h]
  · simp only [if_neg h, decide_eq_false h]; rfl
theorem ct2_good (h : Places3 a b o k) : Good (ct2 a b) [⟨1, 0, 0, a, b, c0⟩] 3 :=
  good_link (good_link (ct1_good h) b a true 1 (by have := (ct1_good h).ncut; omega)) a b true 1 (by have : ((ct1 a b).link_ b a true 1).ncut = (ct1 a b).ncut + 1 := rfl; have := (ct1_good h).ncut; omega)
theorem ct2_copies : (ct2 a b).copies a b = [] := copies_cut (by rw [ct2_cut]; simp)
theorem ct3_copies : (ct3 a b).copies b a = [] := copies_cut (by unfold ct3; rw [cutB_ok, ct2_cut, linkS_comm b a]; simp)
theorem ct2_send (h : Places3 a b o k) : netSendAll (ct2 a b) a b c1 = (0, ct3 a b) := send_ok (ct2_good h) (by rw [h.ga, h.gb]; rfl) (by decide) (by rw [ct2_copies]; simp)
theorem ct3_good (h : Places3 a b o k) : Good (ct3 a b) [⟨1, 0, 0, a, b, c0⟩] 4 := by
  have := good_ok (ct2_good h) a b c1 (by rw [ct2_copies]; simp)
  rw [ct2_copies] at this
  exact this
theorem ct3_send (h : Places3 a b o k) : netSendAll (ct3 a b) b a c2 = (0, ct4 a b) := send_ok (ct3_good h) (by rw [h.ga, h.gb]; rfl) (by decide) (by rw [ct3_copies]; simp)
theorem ct4_good (h : Places3 a b o k) : Good (ct4 a b) [⟨1, 0, 0, a, b, c0⟩] 5 := by
  have := good_ok (ct3_good h) b a c2 (by rw [ct3_copies]; simp)
  rw [ct3_copies] at this
  exact this
theorem ct4_lost : (ct4 a b).lost = 2 := by
  unfold ct4
  rw [ok_lost, ct3_copies]
  unfold ct3
  rw [ok_lost, ct2_copies]
  have : (ct2 a b).lost = 0 + (if ct0.copies a b = [] then 1 else 0) := rfl
  rw [this, copies_one rfl rfl]
  rfl
theorem ct4_copies (h : Places3 a b o k) (hk : k = true) : (ct4 a b).copies a o = [1] := by
  refine copies_one ?_ rfl
  unfold ct4 ct3
  rw [cutB_ok, cutB_ok, ct2_cut, decide_eq_false_iff_not]
  intro e
  have := h.gk hk
  rcases linkS_inj e with ⟨_, h1⟩ | ⟨_, h1⟩
  · exact this.2 h1
  · exact this.1 h1
theorem ct4_send (h : Places3 a b o k) (hk : k = true) : netSendAll (ct4 a b) a o c3 = (0, ct5 a b o k) := by
  rw [ct5, if_pos hk]
  exact send_ok (ct4_good h) (by rw [h.ga, h.go]; rfl) (by decide) (by rw [ct4_copies h hk]; simp)
def p5 (a b o : ByteArray) (k : Bool) : List Pc := if k then [⟨1, 0, 0, a, b, c0⟩, ⟨1, 3, 0, a, o, c3⟩] else [⟨1, 0, 0, a, b, c0⟩]
theorem ct5_good (h : Places3 a b o k) : Good (ct5 a b o k) (p5 a b o k) 6 := by
  unfold ct5 p5
  by_cases hk : k = true
  · rw [if_pos hk, if_pos hk]
    have := good_ok (ct4_good h) a o c3 (by rw [ct4_copies h hk]; simp)
    rw [ct4_copies h hk] at this
    exact this
  · rw [if_neg hk, if_neg hk]
    exact (ct4_good h).mono (by omega)
theorem ct5_lost (h : Places3 a b o k) : (ct5 a b o k).lost = 2 := by
  unfold ct5
  by_cases hk : k = true
  · rw [if_pos hk, ok_lost, ct4_lost, ct4_copies h hk]; rfl
  · rw [if_neg hk, ct4_lost]
theorem ct5_len : (p5 a b o k).length ≤ 2 := by unfold p5; split <;> simp
theorem ct5_script : (ct5 a b o k).script = [] := by unfold ct5; split <;> rfl
theorem ct6_good (h : Places3 a b o k) : Good (ct6 a b o k) (p5 a b o k) 6 := good_link (ct5_good h) a b false 0 (by have := (ct5_good h).ncut; omega)
theorem ct6_copies (_h : Places3 a b o k) : (ct6 a b o k).copies b a = [1] := by
  refine copies_one ?_ (by unfold ct6; exact ct5_script)
  unfold ct6
  rw [cutB_link, linkS_comm b a, if_pos rfl]
theorem ct6_send (h : Places3 a b o k) : netSendAll (ct6 a b o k) b a c4 = (0, ct7 a b o k) :=
  send_ok (ct6_good h) (by rw [h.ga, h.gb]; rfl) (by decide) (by rw [ct6_copies h]; have := ct5_len (a := a) (b := b) (o := o) (k := k); simp only [List.length_singleton]; omega)
def p7 (a b o : ByteArray) (k : Bool) : List Pc := p5 a b o k ++ [⟨1, (ct6 a b o k).sent, 0, b, a, c4⟩]
theorem ct6_now : (ct6 a b o k).now = 0 := by
  have : (ct6 a b o k).now = (ct5 a b o k).now := rfl
  rw [this]; unfold ct5; split <;> rfl
theorem ct7_good (h : Places3 a b o k) : Good (ct7 a b o k) (p7 a b o k) 7 := by
  have hl := ct5_len (a := a) (b := b) (o := o) (k := k)
  have := good_ok (ct6_good h) b a c4 (by rw [ct6_copies h]; simp only [List.length_singleton]; omega)
  rw [ct6_copies h] at this
  have e : newP (ct6 a b o k) b a c4 [1] [(1 : Int)].length = [⟨1, (ct6 a b o k).sent, 0, b, a, c4⟩] := by simp [newP, ct6_now]
  rw [e] at this
  exact this
theorem ct7_lost (h : Places3 a b o k) : (ct7 a b o k).lost = 2 := by
  unfold ct7
  rw [ok_lost, ct6_copies h]
  exact ct5_lost h
theorem ct7_now : (ct7 a b o k).now = 0 := ct6_now
theorem ct8_good (h : Places3 a b o k) : Good (ct8 a b o k) (p7 a b o k) 7 := good_now (ct7_good h) (by omega)
theorem ct9_good (h : Places3 a b o k) : Good (ct9 a b o k) (leftP (p7 a b o k) 1 b) 7 := good_left (ct8_good h) b
theorem ct6_sent : 3 ≤ (ct6 a b o k).sent := by
  have : (ct6 a b o k).sent = (ct5 a b o k).sent := rfl
  rw [this]; unfold ct5; split
  · exact (by decide : 3 ≤ 4)
  · exact (by decide : 3 ≤ 3)

set_option linter.unusedSimpArgs false in
theorem ct8_same (h : Places3 a a o k) : netTake (ct8 a a o k) a = [⟨1, 0, 0, a, c0⟩, ⟨1, (ct6 a a o k).sent, 0, a, c4⟩] := by
  have hs := ct6_sent (a := a) (b := a) (o := o) (k := k)
  refine take_eq (ct8_good h).rel a _ ?_ ?_
  · have e : arrP (p7 a a o k) 1 a = [⟨1, 0, 0, a, c0⟩, ⟨1, (ct6 a a o k).sent, 0, a, c4⟩] := by
      unfold p7 p5
      by_cases hk : k = true
      · have := (h.gk hk).1
        simp [arrP, forP, Pc.cp, hk, this]
      · simp [arrP, forP, Pc.cp, hk]
    exact (List.Perm.of_eq e.symm)
  · simp [Cp.lt_iff]
set_option linter.unusedSimpArgs false in
theorem ct8_other (h : Places3 a b o k) (hab : a ≠ b) : netTake (ct8 a b o k) b = [⟨1, 0, 0, a, c0⟩] := by
  refine take_eq (ct8_good h).rel b _ ?_ (by simp)
  have e : arrP (p7 a b o k) 1 b = [⟨1, 0, 0, a, c0⟩] := by
    unfold p7 p5
    by_cases hk : k = true
    · have := (h.gk hk).2
      simp [arrP, forP, Pc.cp, hk, this, hab]
    · simp [arrP, forP, Pc.cp, hk, hab]
  exact (List.Perm.of_eq e.symm)
set_option linter.unusedSimpArgs false in
theorem ct9_other (h : Places3 a b o k) (hab : a ≠ b) : netTake (ct9 a b o k) a = [⟨1, (ct6 a b o k).sent, 0, b, c4⟩] := by
  refine take_eq (ct9_good h).rel a _ ?_ (by simp)
  have hn : (ct9 a b o k).now = 1 := by unfold ct9; rw [left_now]; rfl
  rw [hn]
  have e : arrP (leftP (p7 a b o k) 1 b) 1 a = [⟨1, (ct6 a b o k).sent, 0, b, c4⟩] := by
    unfold p7 p5
    by_cases hk : k = true
    · have := (h.gk hk)
      simp [arrP, forP, leftP, Pc.cp, hk, this, hab, hab.symm]
    · simp [arrP, forP, leftP, Pc.cp, hk, hab, hab.symm]
  exact (List.Perm.of_eq e.symm)
end

end Go.Proofs.Ytbfkmdcjamillaa
