/- The plain part of the law NetworkCuts. -/
import Derived.Test.YthmndclmecnpmaaDoorWNetPlain2
namespace Go.Proofs.YthmndclmecnpmaaDoor.Nw

/-- Whether a link is cut. -/
def NetS.cutB (S : NetS) (x y : ByteArray) : Bool := S.cut (linkS x y).1 (linkS x y).2
set_option maxRecDepth 100000 in
theorem cutB_link (S : NetS) (a b : ByteArray) (v : Bool) (k : Nat) (x y : ByteArray) : (S.link_ a b v k).cutB x y = if linkS x y = linkS a b then v else S.cutB x y := by
  unfold NetS.cutB NetS.link_
  by_cases h : linkS x y = linkS a b
  · simp [h]
  · have : ¬ ((linkS x y).1 = (linkS a b).1 ∧ (linkS x y).2 = (linkS a b).2) := fun e => h (Prod.ext e.1 e.2)
    simp [h, this]
set_option maxRecDepth 100000 in
theorem cutB_ok (S : NetS) (a b c x y : ByteArray) : (netOk S a b c).cutB x y = S.cutB x y := rfl
set_option maxRecDepth 100000 in
theorem copies_cut {S : NetS} {x y : ByteArray} (h : S.cutB x y = true) : S.copies x y = [] := by
  unfold NetS.copies
  unfold NetS.cutB at h
  rw [if_pos h]
set_option maxRecDepth 100000 in
theorem copies_open {S : NetS} {x y : ByteArray} (h : S.cutB x y = false) : S.copies x y = delaysL S.byte := by
  unfold NetS.copies
  unfold NetS.cutB at h
  rw [if_neg (by simp [h])]
set_option maxRecDepth 100000 in
theorem copies_one {S : NetS} {x y : ByteArray} (h : S.cutB x y = false) (hs : S.script = []) : S.copies x y = [1] := by
  rw [copies_open h]
  unfold NetS.byte
  rw [hs]
  show delaysL 0 = [1]
  decide +kernel

set_option maxRecDepth 100000 in
theorem take_eq {S : NetS} {P : List Pc} (R : Rel S P) (s : ByteArray) (r : List Cp) (hr : r.Perm (arrP P S.now s)) (hs : r.Pairwise (fun a b => ¬ Cp.lt b a = true)) : netTake S s = r := by
  unfold netTake
  split
  · exact takeL_eq R s r hr hs
  · rename_i hk
    have e := R.rest s hk
    have hp := R.perm s
    rw [e] at hp
    unfold arrP at hr
    rw [List.nil_perm.1 hp] at hr
    exact (List.perm_nil.1 hr).symm
end Go.Proofs.YthmndclmecnpmaaDoor.Nw
