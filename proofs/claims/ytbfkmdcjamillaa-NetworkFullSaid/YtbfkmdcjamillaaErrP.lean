/- The law NetworkErrors: the plain part and the walk. -/
import Derived.Test.YtbfkmdcjamillaaNetK
import Derived.Test.YtbfkmdcjamillaaNetPlain2
namespace Go.Proofs.Ytbfkmdcjamillaa
open Go.RowKit Go.Maps

def sA : ByteArray := ⟨#[97]⟩
def sB : ByteArray := ⟨#[98]⟩
def sX : ByteArray := ⟨#[120]⟩
def er0 : NetS := newNet [4]
def er1 (a b : ByteArray) : NetS := (netSendAll er0 a b sX).2
def er2 (a b d : ByteArray) : NetS := (netSendAll (er1 a b) sA sB d).2
def er3 (a b d : ByteArray) : NetS := { er2 a b d with now := 1 }
def er4 (a b d : ByteArray) : NetS := netLeft (er3 a b d) sB
def er5 (a b d : ByteArray) : NetS := { er4 a b d with now := 2 }
def er6 (a b d : ByteArray) : NetS := netLeft (er5 a b d) sB

theorem er0_good : Good er0 [] 0 := good_new [4] (by decide)
theorem er0_copies (a b : ByteArray) : er0.copies a b = [2] := rfl

theorem er1_yes (a b : ByteArray) (hp : (placeB a && placeB b) = true) : (netSendAll er0 a b sX).1 = 0 ∧ Good (er1 a b) [⟨2, 0, 0, a, b, sX⟩] 1 ∧ (∀ x y, (er1 a b).copies x y = [1]) ∧ (er1 a b).now = 0 ∧ (er1 a b).sent = 1 := by
  have hs := send_ok er0_good hp (show sX.size ≤ 1048576 by decide) (by rw [er0_copies]; decide)
  have e1 : er1 a b = netOk er0 a b sX := by unfold er1; rw [hs]
  rw [hs, e1]
  exact ⟨rfl, good_ok er0_good a b sX (by rw [er0_copies]; decide), fun x y => by show delaysL 0 = [1]; decide +kernel, rfl, rfl⟩
theorem er1_no (a b : ByteArray) (hp : (placeB a && placeB b) = false) : (netSendAll er0 a b sX).1 = 12 ∧ er1 a b = er0 := by
  have hs := send_bad er0 sX hp
  unfold er1
  rw [hs]
  exact ⟨rfl, rfl⟩

theorem er_good1 (a b : ByteArray) : ∃ P, Good (er1 a b) P 1 := by
  by_cases hp : (placeB a && placeB b) = true
  · exact ⟨_, (er1_yes a b hp).2.1⟩
  · rw [(er1_no a b (by simpa using hp)).2]; exact ⟨_, er0_good.mono (by omega)⟩

/-- What the end of the law sees. -/
structure ErEnd (a b d : ByteArray) (n1 n2 : Nat) : Prop where
  ok : (netSendAll (er1 a b) sA sB d).1 = 0
  now2 : (er2 a b d).now = 0
  now4 : (er4 a b d).now = 1
  pend3 : (er3 a b d).pend ≤ 4096
  pend5 : (er5 a b d).pend ≤ 4096
  n1 : (netTake (er3 a b d) sB).length = n1
  n2 : (netTake (er5 a b d) sB).length = n2

theorem er_end (a b d : ByteArray) (hd : d.size ≤ 255) {P1 : List Pc} {k : Int} (G1 : Good (er1 a b) P1 1) (hl : P1.length ≤ 1) (hc : (er1 a b).copies sA sB = [k]) (hn : (er1 a b).now = 0) (n1 n2 : Nat)
    (h1 : (arrP (P1 ++ [⟨k, (er1 a b).sent, 0, sA, sB, d⟩]) 1 sB).length = n1) (h2 : (arrP (leftP (P1 ++ [⟨k, (er1 a b).sent, 0, sA, sB, d⟩]) 1 sB) 2 sB).length = n2) : ErEnd a b d n1 n2 := by
  have hlen : P1.length + ((er1 a b).copies sA sB).length ≤ 4096 := by rw [hc]; simp only [List.length_singleton]; omega
  have hs := send_ok G1 (show (placeB sA && placeB sB) = true by decide) (show d.size ≤ 1048576 by omega) hlen
  have e2 : er2 a b d = netOk (er1 a b) sA sB d := by unfold er2; rw [hs]
  have G2 := good_ok G1 sA sB d hlen
  rw [← e2, hc] at G2
  have eP : newP (er1 a b) sA sB d [k] [k].length = [⟨k, (er1 a b).sent, 0, sA, sB, d⟩] := by
    simp [newP, hn]
  rw [eP] at G2
  have n2' : (er2 a b d).now = 0 := by rw [e2, ok_now, hn]
  have G3 : Good (er3 a b d) (P1 ++ [⟨k, (er1 a b).sent, 0, sA, sB, d⟩]) 2 := good_now G2 (by omega)
  have G4 := good_left G3 sB
  have n4 : (er4 a b d).now = 1 := by unfold er4; rw [left_now]; rfl
  have G5 : Good (er5 a b d) _ 2 := good_now G4 (by omega)
  exact ⟨by rw [hs], n2', n4, G3.pend, G5.pend, by rw [take_len G3.rel sB]; exact h1, by rw [take_len G5.rel sB]; exact h2⟩

theorem er_end_no (a b d : ByteArray) (hd : d.size ≤ 255) (hp : (placeB a && placeB b) = false) : ErEnd a b d 0 1 := by
  have e := (er1_no a b hp).2
  refine er_end a b d hd (P1 := []) (k := 2) ?_ (by simp) (by rw [e]; rfl) (by rw [e]; rfl) 0 1 ?_ ?_
  · rw [e]; exact er0_good.mono (by omega)
  · rw [e]; rfl
  · rw [e]; rfl
theorem er_end_yes (a b d : ByteArray) (hd : d.size ≤ 255) (hp : (placeB a && placeB b) = true) : ErEnd a b d 1 (if b = sB then 1 else 0) := by
  obtain ⟨_, G1, hc, hn, hs⟩ := er1_yes a b hp
  refine er_end a b d hd (k := 1) G1 (by simp) (hc _ _) hn 1 _ ?_ ?_
  · by_cases e : b = sB <;> simp [arrP, forP, e, Pc.cp]
  · by_cases e : b = sB <;> simp [arrP, forP, leftP, e, Pc.cp]

end Go.Proofs.Ytbfkmdcjamillaa
