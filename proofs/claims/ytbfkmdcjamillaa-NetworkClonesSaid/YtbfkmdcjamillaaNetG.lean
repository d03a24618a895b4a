/- Small tools for the laws' walks. -/
import Derived.Test.YtbfkmdcjamillaaNetPlain2
import Derived.Test.YtbfkmdcjamillaaNetK
import Derived.Test.YtbfkmdcjamillaaPlace
import Derived.Test.YtbfkmdcjamillaaSlices
import Derived.SizedLaws
namespace Go.Proofs.Ytbfkmdcjamillaa
open Go.RowKit Go.Maps

theorem rem4 (k : UInt8) : ∃ r : UInt8, r.toNat < 4 ∧ (k.toNat : Int) % 4 = (r.toNat : Int) := by
  have hk := k.toNat_lt
  refine ⟨UInt8.ofNat (k.toNat % 4), ?_, ?_⟩
  · rw [UInt8.toNat_ofNat_of_lt' (show k.toNat % 4 < UInt8.size by simp [UInt8.size]; omega)]; omega
  · rw [UInt8.toNat_ofNat_of_lt' (show k.toNat % 4 < UInt8.size by simp [UInt8.size]; omega)]; omega

theorem sum4 (p q : UInt8) : ∃ r : UInt8, r.toNat < 4 ∧ ((p.toNat : Int) + (q.toNat : Int) + 1) % 4 = (r.toNat : Int) := by
  have hk := p.toNat_lt
  refine ⟨UInt8.ofNat ((p.toNat + q.toNat + 1) % 4), ?_, ?_⟩
  · rw [UInt8.toNat_ofNat_of_lt' (show (p.toNat + q.toNat + 1) % 4 < UInt8.size by simp [UInt8.size]; omega)]; omega
  · rw [UInt8.toNat_ofNat_of_lt' (show (p.toNat + q.toNat + 1) % 4 < UInt8.size by simp [UInt8.size]; omega)]; omega

theorem send_to (w0 w : World) (F : Nat → Prop) (N : Nat) (S S' : NetS) (v : Int) (a b c : ByteArray) (h : Net w0 w F N S) (hs : Small S) (hc : c.size ≤ maxLen) (he : netSendAll S a b c = (v, S')) :
    Calls Try.prog 20 #[.pointer (some ⟨N, 0, none⟩), .string a, .string b, .string c] w fun e w' => e = .returned (.int .i64 v) ∧ ∃ F', Net w0 w' F' N S' ∧ Only F w w' ∧ Grows F F' w := by
  have := send_net w0 w F N S a b c h hs hc
  rw [he] at this
  exact this

theorem pk_row {w : World} {base : Nat} {v : Value} {l : List Cp} (h : w.ownsRow base 38 2 v l.length (pksOf l)) (hl : 0 < l.length) :
    ∃ g cap, v = .slice (some ⟨g, 0, none⟩) l.length cap ∧ base ≤ g ∧ g < w.heap.size ∧ ∀ i c, l[i]? = some c → w.cell? ⟨g, 2 * i, none⟩ = some (.string c.fr) ∧ w.cell? ⟨g, 2 * i + 1, none⟩ = some (.string c.da) := by
  obtain ⟨g, cap, rfl, hb, hg⟩ := h.form hl
  have hc := h.cells (g := g) rfl
  refine ⟨g, cap, rfl, hb, hg, fun i c hi => ?_⟩
  have key : ∀ (l : List Cp) (i : Nat), l[i]? = some c → (pksOf l)[2 * i]? = some (.string c.fr) ∧ (pksOf l)[2 * i + 1]? = some (.string c.da) := by
    intro l
    induction l with
    | nil => intro i h; simp at h
    | cons x l ih =>
      intro i h
      have e : pksOf (x :: l) = .string x.fr :: .string x.da :: pksOf l := rfl
      rw [e]
      rcases i with _ | i
      · simp at h
        subst h
        exact ⟨rfl, rfl⟩
      · have := ih i (by simpa using h)
        exact ⟨this.1, this.2⟩
  have := key l i hi
  have h1 := hc _ _ this.1
  have h2 := hc _ _ this.2
  rw [addr0] at h1 h2
  exact ⟨h1, h2⟩

theorem str_ne {a b : ByteArray} (h : ¬ a = b) : ¬ a.toList = b.toList := by
  intro e
  refine h (ByteArray.ext (Array.toList_inj.1 ?_))
  rw [ByteArray.toList_eq, ByteArray.toList_eq] at e
  exact e

theorem new_given {w0 w : World} {A : Option Addr} {n c : Nat} {X : List UInt8} (h : Given w0 1 A n c (byteVals' X)) (hb : Below w0.heap.size w0 w) :
    Calls Try.prog 16 #[.slice A n c] w fun e w' => ∃ N F, e = .returned (.pointer (some ⟨N, 0, none⟩)) ∧ Net w0 w' F N (newNet X) ∧ Only Nobody w w' ∧ ∀ b, F b → w.heap.size ≤ b := by
  refine new_net w0 w A n c X hb ?_ (by have := h.rch; have := reachBytes_lt; omega)
  rcases A with _ | ad
  · obtain ⟨h1, h2⟩ := h.nil rfl
    have hl := h.rd.1
    rw [h1] at hl
    simp [byteVals'] at hl
    exact .inl ⟨rfl, h1, h2, hl⟩
  · exact .inr ⟨ad, rfl, (h.rd.below hb).more hb.size⟩

theorem given_len {w0 : World} {A : Option Addr} {n c : Nat} {X : List UInt8} (h : Given w0 1 A n c (byteVals' X)) : X.length = n := by
  have := h.rd.1
  simpa [byteVals'] using this

end Go.Proofs.Ytbfkmdcjamillaa
