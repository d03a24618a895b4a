/- Exchange: a law's parameter that is a slice of Ops, opened (printed by gen_exops.py from XSlices, XOps). -/
import Derived.Test.YthmndclmecnpmaaDoorExLaid
import Derived.Deep.Slices
import Derived.ChangeSlices
import Derived.ChangeArms
namespace Go.Proofs.YthmndclmecnpmaaDoor
open Go.ChangeShapes Go.WideShapes Go.ChangeAt Go.RowKit

def byteVals' (l : List UInt8) : List Value := l.map fun b => .int .u8 b.toNat

/-- A slice value of which a walk may read n elements of some size. -/
structure Given (W : World) (size : Nat) (A : Option Addr) (n c : Nat) (xs : List Value) : Prop where
  rd : Reads W W.heap.size size A n xs
  le : n ≤ c
  mx : c ≤ maxLen
  rch : n ≤ reachBytes
  nil : A = none → n = 0 ∧ c = 0

section
variable {H : Type} {enc : TypeId × Value → H} {P : Program} {W : World}

theorem u8_of_wf {a : Int} (h : (Lit.int .u8 a).wf = true) : ∃ b : UInt8, a = (b.toNat : Int) := by
  obtain ⟨h0, h1⟩ := bounds_u8 h
  refine ⟨UInt8.ofNat a.toNat, ?_⟩
  rw [UInt8.toNat_ofNat_of_lt' (show a.toNat < UInt8.size by simp [UInt8.size]; omega)]
  omega

theorem all_u8 : ∀ (zs : List Int), (∀ n ∈ zs, (Lit.int .u8 n).wf = true) → ∃ xs : List UInt8, zs = xs.map fun b => (b.toNat : Int)
  | [], _ => ⟨[], rfl⟩
  | z :: zs, h => by
    obtain ⟨b, hb⟩ := u8_of_wf (h z (by simp))
    obtain ⟨xs, hx⟩ := all_u8 zs (fun n hn => h n (by simp [hn]))
    exact ⟨b :: xs, by simp [hb, hx]⟩

theorem mem_row_block {a : Addr} {n : Nat} (hn : 0 < n) (hlt : ∀ x ∈ MemPlace.row a n, x.block < W.heap.size) : a.block < W.heap.size := by
  exact hlt (MemPlace.cell a.block (a.off + 0)) (List.mem_map.2 ⟨0, List.mem_range.2 hn, rfl⟩)

theorem open_bytes {b0 : Nat} {t e : TypeId} {v : Value} {d : DataW H} {p : List MemPlace} (ht : P.underlying t = some (.slice e)) (he : P.underlying e = some (.int .u8)) (hc : P.cellsOf e = 1)
    (hval : Value.okWide P W .any b0 t v) (h : DataW.Trod enc P W 0 (fun _ => true) true t v d p) (hlt : ∀ x ∈ p, x.block < W.heap.size)
    (hsz : ∀ el sp, d = .slice el sp → el.length ≤ reachBytes) : ∃ A n c xs, v = .slice A n c ∧ Given W 1 A n c (byteVals' xs) := by
  obtain ⟨a0, len0, cap0, rfl⟩ := okWide_slice ht hval
  obtain ⟨fuel, hf⟩ := h
  rcases open_ints ht he hc hf with ⟨hcs, hx⟩ | ⟨a, len, cap, zs, hcs, _, hl, hm, hlen, hx, hcell, hwf⟩
  · simp [Value.cells] at hcs
    obtain ⟨rfl, rfl, rfl⟩ := hcs
    exact ⟨none, 0, 0, [], rfl, Reads.none_, Nat.le_refl _, by decide, by decide, fun _ => ⟨rfl, rfl⟩⟩
  · simp [Value.cells] at hcs
    obtain ⟨rfl, rfl, rfl⟩ := hcs
    obtain ⟨xs, rfl⟩ := all_u8 zs hwf
    simp only [Prod.mk.injEq] at hx
    obtain ⟨rfl, rfl⟩ := hx
    simp only [if_true, List.length_map] at hlen
    refine ⟨some a, len0, cap0, xs.take len0, rfl, ⟨by simp [byteVals', hlen]; omega, fun h0 => ⟨a, rfl, ?_, ?_⟩⟩, hl, hm, ?_, fun h => by cases h⟩
    · exact mem_row_block (by simp only [List.length_map, hlen]; omega) hlt
    · intro j u hu
      have hj : j < (xs.take len0).length := by
        have := (List.getElem?_eq_some_iff.1 hu).1
        simpa [byteVals'] using this
      have := hcell j (by simp only [List.length_map]; rw [List.length_take] at hj; omega)
      rw [this, ← hu]
      have hj2 : j < xs.length := by rw [List.length_take] at hj; omega
      simp only [byteVals', List.getElem?_map]
      rw [List.getElem?_eq_getElem hj]
      simp [List.getD, List.getElem?_eq_getElem hj2]
    · have := hsz _ _ rfl
      simp [lits] at this
      omega
end

theorem choose_list {α : Type} {p : Nat → α → Prop} : ∀ n : Nat, (∀ i, i < n → ∃ a, p i a) → ∃ l : List α, l.length = n ∧ ∀ i a, l[i]? = some a → p i a
  | 0, _ => ⟨[], rfl, fun i a h => by simp at h⟩
  | n + 1, h => by
    obtain ⟨l, hl, hp⟩ := choose_list n (fun i hi => h i (by omega))
    obtain ⟨a, ha⟩ := h n (by omega)
    refine ⟨l ++ [a], by simp [hl], fun i x hx => ?_⟩
    rcases Nat.lt_or_ge i n with hi | hi
    · rw [List.getElem?_append_left (by omega)] at hx
      exact hp i x hx
    · have hi2 : i < (l ++ [a]).length := (List.getElem?_eq_some_iff.1 hx).1
      simp only [List.length_append, List.length_singleton] at hi2
      obtain rfl : i = n := by omega
      rw [← hl] at hx
      simp at hx
      rw [← hx]
      exact ha

/-- An Op: its kind, number, time. -/
structure Op3 where
  kind : UInt8
  num : Int
  time : UInt8
  lo : -128 ≤ num ∧ num ≤ 127
def Op3.vals (o : Op3) : List Value := [.int .u8 o.kind.toNat, .int .i8 o.num, .int .u8 o.time.toNat]
def opVals (l : List Op3) : List Value := l.flatMap Op3.vals
theorem opVals_length (l : List Op3) : (opVals l).length = l.length * 3 := by
  induction l with
  | nil => rfl
  | cons o l ih => simp only [opVals, List.flatMap_cons, List.length_append] at *; rw [ih]; simp [Op3.vals]; omega
theorem opVals_get : ∀ (l : List Op3) (i : Nat) (o : Op3), l[i]? = some o → ∀ (j : Nat) (u : Value), o.vals[j]? = some u → (opVals l)[i * 3 + j]? = some u
  | [], i, o, h => by simp at h
  | x :: l, 0, o, h => fun j u hu => by
    simp only [List.getElem?_cons_zero, Option.some.injEq] at h
    subst h
    have hj : j < x.vals.length := (List.getElem?_eq_some_iff.1 hu).1
    simp only [opVals, List.flatMap_cons]
    rw [Nat.zero_mul, Nat.zero_add, List.getElem?_append_left hj, hu]
  | x :: l, i + 1, o, h => fun j u hu => by
    have ih := opVals_get l i o (by simpa using h) j u hu
    simp only [opVals, List.flatMap_cons] at *
    rw [List.getElem?_append_right (by simp [Op3.vals]; omega)]
    rw [← ih]
    congr 1
    simp [Op3.vals]
    omega

section
variable {H : Type} {enc : TypeId × Value → H} {W : World}

set_option maxRecDepth 100000 in
theorem open_op {base : Nat} {spare : Nat → Bool} {held : Bool} {fuel : Nat} {cs : List Value} {x : DataW H × List MemPlace} (h : DataW.trod enc Tryd.prog W base spare held fuel 34 cs = some x) : ∃ o : Op3, cs = o.vals := by
  obtain ⟨ys, n, _, _, hlen, hyl, hf⟩ := DataW.trod_struct Tryd.underlying34 h
  have hc : Tryd.prog.cellsOf 34 = 3 := by kernel_rfl
  have hc1 : Tryd.prog.cellsOf 5 = 1 := by kernel_rfl
  rw [hc] at hlen
  replace hyl : ys.length = 3 := hyl
  obtain ⟨y0, y1, y2, rfl⟩ : ∃ a b c, ys = [a, b, c] := by
    rcases ys with _ | ⟨a, _ | ⟨b, _ | ⟨c, _ | _⟩⟩⟩ <;> simp at hyl
    exact ⟨a, b, c, rfl⟩
  obtain ⟨c0, c1, c2, rfl⟩ : ∃ a b c, cs = [a, b, c] := by
    rcases cs with _ | ⟨a, _ | ⟨b, _ | ⟨c, _ | _⟩⟩⟩ <;> simp at hlen
    exact ⟨a, b, c, rfl⟩
  have h0 : DataW.trod enc Tryd.prog W base spare held n 5 (([c0, c1, c2].drop 0).take (Tryd.prog.cellsOf 5)) = some y0 := hf 0 _ rfl
  have h1 : DataW.trod enc Tryd.prog W base spare held n 32 (([c0, c1, c2].drop 1).take (Tryd.prog.cellsOf 32)) = some y1 := hf 1 _ rfl
  have h2 : DataW.trod enc Tryd.prog W base spare held n 5 (([c0, c1, c2].drop 2).take (Tryd.prog.cellsOf 5)) = some y2 := hf 2 _ rfl
  rw [hc1] at h0 h2
  rw [show Tryd.prog.cellsOf 32 = 1 by kernel_rfl] at h1
  obtain ⟨n0, e0, _, w0⟩ := DataW.trod_int Tryd.underlying5 h0
  obtain ⟨n1, e1, _, w1⟩ := DataW.trod_int Tryd.underlying32 h1
  obtain ⟨n2, e2, _, w2⟩ := DataW.trod_int Tryd.underlying5 h2
  obtain ⟨b0, rfl⟩ := u8_of_wf w0
  obtain ⟨b2, rfl⟩ := u8_of_wf w2
  have hb1 : -128 ≤ n1 ∧ n1 ≤ 127 := bounds_i8 w1
  simp at e0 e1 e2
  exact ⟨⟨b0, n1, b2, hb1⟩, by simp [Op3.vals, e0, e1, e2]⟩

set_option maxRecDepth 100000 in
theorem open_ops {b0 : Nat} {v : Value} {d : DataW H} {p : List MemPlace}
    (hval : Value.okWide Tryd.prog W .any b0 22 v) (h : DataW.Trod enc Tryd.prog W 0 (fun _ => true) true 22 v d p) (hlt : ∀ x ∈ p, x.block < W.heap.size)
    (hsz : ∀ el sp, d = .slice el sp → el.length ≤ reachBytes) :
    ∃ A n c xs, v = .slice A n c ∧ Given W 3 A n c (opVals xs) ∧ xs.length = n := by
  obtain ⟨a0, len0, cap0, rfl⟩ := okWide_slice Tryd.underlying22 hval
  obtain ⟨fuel, hf⟩ := h
  rcases Go.Deep.open_slice Tryd.underlying22 hf with ⟨hcs, hx⟩ | ⟨a, len, cap, m, n, D, Pl, hcs, _, hl, hm, hmm, hx, hel⟩
  · simp [Value.cells] at hcs
    obtain ⟨rfl, rfl, rfl⟩ := hcs
    exact ⟨none, 0, 0, [], rfl, ⟨Reads.none_, Nat.le_refl _, by decide, by decide, fun _ => ⟨rfl, rfl⟩⟩, rfl⟩
  · simp [Value.cells] at hcs
    obtain ⟨rfl, rfl, rfl⟩ := hcs
    simp only [if_true] at hmm
    subst hmm
    have hc : Tryd.prog.cellsOf 34 = 3 := by kernel_rfl
    rw [hc] at hel hx
    simp only [Prod.mk.injEq] at hx
    obtain ⟨rfl, rfl⟩ := hx
    obtain ⟨xs, hxl, hxs⟩ := choose_list (p := fun i (o : Op3) => W.cells? 0 (a.add (i * 3)) 3 = some o.vals) len0 (fun i hi => by
      obtain ⟨cs', h1, h2⟩ := hel i (by omega)
      obtain ⟨o, ho⟩ := open_op h2
      exact ⟨o, by rw [h1, ho]⟩)
    refine ⟨some a, len0, m, xs, rfl, ⟨⟨by rw [opVals_length, hxl], fun h0 => ⟨a, rfl, ?_, ?_⟩⟩, hl, hm, ?_, fun h => by cases h⟩, hxl⟩
    · exact mem_row_block (show 0 < m * 3 by omega) (fun x hx => hlt x (List.mem_append_left _ hx))
    · intro j u hu
      have hj : j < (opVals xs).length := (List.getElem?_eq_some_iff.1 hu).1
      rw [opVals_length] at hj
      have hi : j / 3 < xs.length := by omega
      have ho : xs[j / 3]? = some xs[j / 3] := List.getElem?_eq_getElem hi
      have hcs := hxs (j / 3) _ ho
      have hr : j % 3 < (xs[j / 3]).vals.length := by simp only [Op3.vals, List.length_cons, List.length_nil]; omega
      have hg := opVals_get xs (j / 3) _ ho (j % 3) _ (List.getElem?_eq_getElem hr)
      rw [show j / 3 * 3 + j % 3 = j by omega, hu] at hg
      obtain ⟨_, _, hcell⟩ := World.cells?_some hcs
      have hc2 := hcell (j % 3) (by omega)
      rw [add_of_add, show j / 3 * 3 + j % 3 = j by omega] at hc2
      rw [hc2, hg]
      exact List.getElem?_eq_getElem hr
    · have := hsz _ _ rfl
      simpa using this
end

end Go.Proofs.YthmndclmecnpmaaDoor
