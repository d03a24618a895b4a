/- A law's parameters that are slices: opened to what they read as. -/
import Derived.Test.YtbfkmdcjamillaaWords
import Derived.Test.YtbfkmdcjamillaaFrame
import Derived.Deep.Slices
import Derived.ChangeSlices
import Derived.ChangeArms
namespace Go.Proofs.Ytbfkmdcjamillaa
open Go.ChangeShapes Go.WideShapes Go.ChangeAt Go.RowKit

def byteVals' (l : List UInt8) : List Value := l.map fun b => .int .u8 b.toNat

/-- A slice value of which a walk may read n elements of some size. -/
structure Given (W : World) (size : Nat) (A : Option Addr) (n c : Nat) (xs : List Value) : Prop where
  rd : Reads W W.heap.size size A n xs
  le : n ≤ c
  mx : c ≤ maxLen
  rch : n ≤ reachBytes
  nil : A = none → n = 0 ∧ c = 0

section
variable {H : Type} {enc : TypeId × Value → H} {P : Program} {W : World}

theorem u8_of_wf {a : Int} (h : (Lit.int .u8 a).wf = true) : ∃ b : UInt8, a = (b.toNat : Int) := by
  obtain ⟨h0, h1⟩ := bounds_u8 h
  refine ⟨UInt8.ofNat a.toNat, ?_⟩
  rw [UInt8.toNat_ofNat_of_lt' (show a.toNat < UInt8.size by simp [UInt8.size]; omega)]
  omega

theorem all_u8 : ∀ (zs : List Int), (∀ n ∈ zs, (Lit.int .u8 n).wf = true) → ∃ xs : List UInt8, zs = xs.map fun b => (b.toNat : Int)
  | [], _ => ⟨[], rfl⟩
  | z :: zs, h => by
    obtain ⟨b, hb⟩ := u8_of_wf (h z (by simp))
    obtain ⟨xs, hx⟩ := all_u8 zs (fun n hn => h n (by simp [hn]))
    exact ⟨b :: xs, by simp [hb, hx]⟩

theorem mem_row_block {a : Addr} {n : Nat} (hn : 0 < n) (hlt : ∀ x ∈ MemPlace.row a n, x.block < W.heap.size) : a.block < W.heap.size := by
  exact hlt (MemPlace.cell a.block (a.off + 0)) (List.mem_map.2 ⟨0, List.mem_range.2 hn, rfl⟩)

theorem open_bytes {b0 : Nat} {t e : TypeId} {v : Value} {d : DataW H} {p : List MemPlace} (ht : P.underlying t = some (.slice e)) (he : P.underlying e = some (.int .u8)) (hc : P.cellsOf e = 1)
    (hval : Value.okWide P W .any b0 t v) (h : DataW.Trod enc P W 0 (fun _ => true) true t v d p) (hlt : ∀ x ∈ p, x.block < W.heap.size)
    (hsz : ∀ el sp, d = .slice el sp → el.length ≤ reachBytes) : ∃ A n c xs, v = .slice A n c ∧ Given W 1 A n c (byteVals' xs) := by
  obtain ⟨a0, len0, cap0, rfl⟩ := okWide_slice ht hval
  obtain ⟨fuel, hf⟩ := h
  rcases open_ints ht he hc hf with ⟨hcs, hx⟩ | ⟨a, len, cap, zs, hcs, _, hl, hm, hlen, hx, hcell, hwf⟩
  · simp [Value.cells] at hcs
    obtain ⟨rfl, rfl, rfl⟩ := hcs
    exact ⟨none, 0, 0, [], rfl, Reads.none_, Nat.le_refl _, by decide, by decide, fun _ => ⟨rfl, rfl⟩⟩
  · simp [Value.cells] at hcs
    obtain ⟨rfl, rfl, rfl⟩ := hcs
    obtain ⟨xs, rfl⟩ := all_u8 zs hwf
    simp only [Prod.mk.injEq] at hx
    obtain ⟨rfl, rfl⟩ := hx
    simp only [if_true, List.length_map] at hlen
    refine ⟨some a, len0, cap0, xs.take len0, rfl, ⟨by simp [byteVals', hlen]; omega, fun h0 => ⟨a, rfl, ?_, ?_⟩⟩, hl, hm, ?_, fun h => by cases h⟩
    · exact mem_row_block (by simp only [List.length_map, hlen]; omega) hlt
    · intro j u hu
      have hj : j < (xs.take len0).length := by
        have := (List.getElem?_eq_some_iff.1 hu).1
        simpa [byteVals'] using this
      have := hcell j (by simp only [List.length_map]; rw [List.length_take] at hj; omega)
      rw [this, ← hu]
      have hj2 : j < xs.length := by rw [List.length_take] at hj; omega
      simp only [byteVals', List.getElem?_map]
      rw [List.getElem?_eq_getElem hj]
      simp [List.getD, List.getElem?_eq_getElem hj2]
    · have := hsz _ _ rfl
      simp [lits] at this
      omega
end

theorem choose_list {α : Type} {p : Nat → α → Prop} : ∀ n : Nat, (∀ i, i < n → ∃ a, p i a) → ∃ l : List α, l.length = n ∧ ∀ i a, l[i]? = some a → p i a
  | 0, _ => ⟨[], rfl, fun i a h => by simp at h⟩
  | n + 1, h => by
    obtain ⟨l, hl, hp⟩ := choose_list n (fun i hi => h i (by omega))
    obtain ⟨a, ha⟩ := h n (by omega)
    refine ⟨l ++ [a], by simp [hl], fun i x hx => ?_⟩
    rcases Nat.lt_or_ge i n with hi | hi
    · rw [List.getElem?_append_left (by omega)] at hx
      exact hp i x hx
    · have hi2 : i < (l ++ [a]).length := (List.getElem?_eq_some_iff.1 hx).1
      simp only [List.length_append, List.length_singleton] at hi2
      obtain rfl : i = n := by omega
      rw [← hl] at hx
      simp at hx
      rw [← hx]
      exact ha

end Go.Proofs.Ytbfkmdcjamillaa
