/- What a walk reads of a slice of Ops, and small tools of the walks. -/
import Derived.Test.YtbfkmdcjamillaaOps
import Derived.Test.YtbfkmdcjamillaaNetG
import Derived.Deep.Cut
import Derived.Deep.CutRange
import Derived.Deep.DeepCutAuto
import Derived.Deep.RegionHeld3
import Derived.Deep.DrawnRows
namespace Go.Proofs.Ytbfkmdcjamillaa
open Go.RowKit Go.Maps

theorem add_off (ad : Addr) (i k : Nat) (hk : 0 < k) : ad.add (i * 4 + k) = ⟨(ad.add (i * 4)).block, (ad.add (i * 4)).off + k, none⟩ := by
  unfold Addr.add
  split <;> split <;> simp_all <;> omega
/-- The four cells of an Op, as a walk writes their addresses. -/
structure OpCells (w : World) (ad : Addr) (i : Nat) (o : Op4) : Prop where
  c0 : w.cell? (ad.add (i * 4)) = some (.int .u8 o.kind.toNat)
  c1 : w.cell? ⟨(ad.add (i * 4)).block, (ad.add (i * 4)).off + 1, none⟩ = some (.int .u8 o.from_.toNat)
  c2 : w.cell? ⟨(ad.add (i * 4)).block, (ad.add (i * 4)).off + 2, none⟩ = some (.int .u8 o.to_.toNat)
  c3 : w.cell? ⟨(ad.add (i * 4)).block, (ad.add (i * 4)).off + 3, none⟩ = some (.int .u8 o.data.toNat)

theorem op_cells {w0 w : World} {ad : Addr} {n c : Nat} {X : List Op4} {i : Nat} {o : Op4} (h : Given w0 4 (some ad) n c (opVals X)) (hi : X[i]? = some o) (hb : Below w0.heap.size w0 w) : OpCells w ad i o := by
  have h2 := h.rd.below hb
  have hl : i < X.length := (List.getElem?_eq_some_iff.1 hi).1
  have hn := h2.1
  rw [opVals_length] at hn
  obtain ⟨ad', e, _, hc⟩ := h2.2 (by omega)
  injection e with e
  subst e
  refine ⟨hc _ _ (opVals_get X i o hi 0 _ rfl), ?_, ?_, ?_⟩
  · rw [← add_off ad i 1 (by omega)]; exact hc _ _ (opVals_get X i o hi 1 _ rfl)
  · rw [← add_off ad i 2 (by omega)]; exact hc _ _ (opVals_get X i o hi 2 _ rfl)
  · rw [← add_off ad i 3 (by omega)]; exact hc _ _ (opVals_get X i o hi 3 _ rfl)
/-- An address, where there is an element. -/
theorem ops_some {w0 : World} {A : Option Addr} {n c : Nat} {X : List Op4} (h : Given w0 4 A n c (opVals X)) (hn : 0 < X.length) : ∃ ad, A = some ad := by
  have h2 := h.rd.1
  rw [opVals_length] at h2
  obtain ⟨ad, e, _⟩ := h.rd.2 (by omega)
  exact ⟨ad, e⟩
theorem take_get {X : List Op4} {m i : Nat} {o : Op4} (h : (X.take m)[i]? = some o) : X[i]? = some o := by
  rw [List.getElem?_take] at h
  split at h
  · exact h
  · cases h

theorem below_of_nobody {w0 w w' : World} (hb : Below w0.heap.size w0 w) (ho : Only Nobody w w') : Below w0.heap.size w0 w' := hb.trans (ho.below hb.size (fun _ x => x.elim))
theorem nobody_of_below {w w' : World} (h : Below w.heap.size w w') : Only Nobody w w' := Only.of_below h Nobody

/-- placeOf and dataOf at a number. -/
theorem placeOf_nat (k : Nat) (hk : k < 256) (w : World) : Calls Try.prog 19 #[.int .u8 (k : Int)] w fun e w' => e = .returned (.string (placeS k)) ∧ Only Nobody w w' := by
  have h := placeOf_any (UInt8.ofNat k) w
  rw [UInt8.toNat_ofNat_of_lt' (show k < UInt8.size by simp [UInt8.size]; omega)] at h
  exact h
theorem dataOf_nat (k : Nat) (hk : k < 256) (w : World) : Calls Try.prog 24 #[.int .u8 (k : Int)] w fun e w' => e = .returned (.string (dataS k)) ∧ Only Nobody w w' := by
  have h := dataOf_any (UInt8.ofNat k) w
  rw [UInt8.toNat_ofNat_of_lt' (show k < UInt8.size by simp [UInt8.size]; omega)] at h
  exact h
/-- .. as a region that draws its order spells a remainder. -/
theorem placeOf_tm (b : UInt8) (w : World) : Calls Try.prog 19 #[.int .u8 ((b.toNat : Int).tmod 4)] w fun e w' => e = .returned (.string (placeS (b.toNat % 4))) ∧ Only Nobody w w' := by
  have e : (b.toNat : Int).tmod 4 = ((b.toNat % 4 : Nat) : Int) := rfl
  rw [e]
  exact placeOf_nat _ (by omega) w

theorem placeOf_m3 (b : UInt8) (w : World) : Calls Try.prog 19 #[.int .u8 ((b.toNat : Int) % 3)] w fun e w' => e = .returned (.string (placeS (b.toNat % 3))) ∧ Only Nobody w w' := by
  have e : (b.toNat : Int) % 3 = ((b.toNat % 3 : Nat) : Int) := rfl
  rw [e]
  exact placeOf_nat _ (by omega) w
theorem placeOf_3 (w : World) : Calls Try.prog 19 #[.int .u8 3] w fun e w' => e = .returned (.string (placeS 3)) ∧ Only Nobody w w' := placeOf_nat 3 (by omega) w

/-- What was received, as a walk reads it. -/
theorem pk_at {w : World} {base n : Nat} {A : Option Addr} {c : Nat} {l : List Cp} (hn : n = l.length) (h : w.ownsRow base 38 2 (.slice A n c) l.length (pksOf l)) (hl : 0 < n) :
    ∃ g, A = some ⟨g, 0, none⟩ ∧ base ≤ g ∧ g < w.heap.size ∧ n ≤ c ∧ ∀ i x, l[i]? = some x → w.cell? ⟨g, i * 2, none⟩ = some (.string x.fr) ∧ w.cell? ⟨g, i * 2 + 1, none⟩ = some (.string x.da) := by
  subst hn
  obtain ⟨g, cap, hv, hb, hg, hc⟩ := pk_row h hl
  have h2 := h.2
  injection hv with h1
  subst h1
  refine ⟨g, rfl, hb, hg, ?_, fun i x hi => by rw [Nat.mul_comm i 2]; exact hc i x hi⟩
  rcases h2 with ⟨h3, h4⟩ | ⟨g', cap', cur, h3, _, _, hnc, _⟩
  · omega
  · injection h3 with _ _ h5
    omega

end Go.Proofs.Ytbfkmdcjamillaa
