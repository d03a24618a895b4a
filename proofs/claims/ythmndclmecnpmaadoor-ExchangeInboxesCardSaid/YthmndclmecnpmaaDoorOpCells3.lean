/- Exchange: what a walk reads of a slice of Ops. -/
import Derived.Test.YthmndclmecnpmaaDoorExOps
namespace Go.Proofs.YthmndclmecnpmaaDoor
open Go.RowKit

theorem add_off3 (ad : Addr) (i k : Nat) (hk : 0 < k) : ad.add (i * 3 + k) = ⟨(ad.add (i * 3)).block, (ad.add (i * 3)).off + k, none⟩ := by
  unfold Addr.add
  split <;> split <;> simp_all <;> omega
/-- The three cells of an Op, as a walk writes their addresses. -/
structure OpCells (w : World) (ad : Addr) (i : Nat) (o : Op3) : Prop where
  c0 : w.cell? (ad.add (i * 3)) = some (.int .u8 o.kind.toNat)
  c1 : w.cell? ⟨(ad.add (i * 3)).block, (ad.add (i * 3)).off + 1, none⟩ = some (.int .i8 o.num)
  c2 : w.cell? ⟨(ad.add (i * 3)).block, (ad.add (i * 3)).off + 2, none⟩ = some (.int .u8 o.time.toNat)
theorem op_cells {w0 w : World} {ad : Addr} {n c : Nat} {X : List Op3} {i : Nat} {o : Op3} (h : Given w0 3 (some ad) n c (opVals X)) (hi : X[i]? = some o) (hb : Only Nobody w0 w) : OpCells w ad i o := by
  have h2 := h.rd.below (hb.below_all (fun _ _ x => x))
  have hl : i < X.length := (List.getElem?_eq_some_iff.1 hi).1
  have hn := h2.1
  rw [opVals_length] at hn
  obtain ⟨ad', e, _, hc⟩ := h2.2 (by omega)
  injection e with e
  subst e
  refine ⟨hc _ _ (opVals_get X i o hi 0 _ rfl), ?_, ?_⟩
  · rw [← add_off3 ad i 1 (by omega)]; exact hc _ _ (opVals_get X i o hi 1 _ rfl)
  · rw [← add_off3 ad i 2 (by omega)]; exact hc _ _ (opVals_get X i o hi 2 _ rfl)
theorem ops_some {w0 : World} {A : Option Addr} {n c : Nat} {X : List Op3} (h : Given w0 3 A n c (opVals X)) (hn : 0 < X.length) : ∃ ad, A = some ad := by
  have h2 := h.rd.1
  rw [opVals_length] at h2
  obtain ⟨ad, e, _⟩ := h.rd.2 (by omega)
  exact ⟨ad, e⟩

end Go.Proofs.YthmndclmecnpmaaDoor
