/- A law's parameter that is a slice of Ops: opened to what it reads as. -/
import Derived.Test.YtbfkmdcjamillaaSlices
namespace Go.Proofs.Ytbfkmdcjamillaa
open Go.ChangeShapes Go.WideShapes Go.ChangeAt Go.RowKit

/-- An Op: its kind, from, to, data. -/
structure Op4 where
  kind : UInt8
  from_ : UInt8
  to_ : UInt8
  data : UInt8
def Op4.vals (o : Op4) : List Value := [.int .u8 o.kind.toNat, .int .u8 o.from_.toNat, .int .u8 o.to_.toNat, .int .u8 o.data.toNat]
def opVals (l : List Op4) : List Value := l.flatMap Op4.vals
theorem opVals_length (l : List Op4) : (opVals l).length = l.length * 4 := by
  induction l with
  | nil => rfl
  | cons o l ih => simp only [opVals, List.flatMap_cons, List.length_append] at *; rw [ih]; simp [Op4.vals]; omega
theorem opVals_get : ∀ (l : List Op4) (i : Nat) (o : Op4), l[i]? = some o → ∀ (j : Nat) (u : Value), o.vals[j]? = some u → (opVals l)[i * 4 + j]? = some u
  | [], i, o, h => by simp at h
  | x :: l, 0, o, h => fun j u hu => by
    simp only [List.getElem?_cons_zero, Option.some.injEq] at h
    subst h
    have hj : j < x.vals.length := (List.getElem?_eq_some_iff.1 hu).1
    simp only [opVals, List.flatMap_cons]
    rw [Nat.zero_mul, Nat.zero_add, List.getElem?_append_left hj, hu]
  | x :: l, i + 1, o, h => fun j u hu => by
    have ih := opVals_get l i o (by simpa using h) j u hu
    simp only [opVals, List.flatMap_cons] at *
    rw [List.getElem?_append_right (by simp [Op4.vals]; omega)]
    rw [← ih]
    congr 1
    simp [Op4.vals]
    omega

section
variable {H : Type} {enc : TypeId × Value → H} {W : World}

theorem open_op {base : Nat} {spare : Nat → Bool} {held : Bool} {fuel : Nat} {cs : List Value} {x : DataW H × List MemPlace} (h : DataW.trod enc Try.prog W base spare held fuel 33 cs = some x) : ∃ o : Op4, cs = o.vals := by
  obtain ⟨ys, n, _, _, hlen, hyl, hf⟩ := DataW.trod_struct Try.underlying33 h
  have hc : Try.prog.cellsOf 33 = 4 := by kernel_rfl
  have hc1 : Try.prog.cellsOf 5 = 1 := by kernel_rfl
  rw [hc] at hlen
  replace hyl : ys.length = 4 := hyl
  obtain ⟨y0, y1, y2, y3, rfl⟩ : ∃ a b c d, ys = [a, b, c, d] := by
    rcases ys with _ | ⟨a, _ | ⟨b, _ | ⟨c, _ | ⟨d, _ | _⟩⟩⟩⟩ <;> simp at hyl
    exact ⟨a, b, c, d, rfl⟩
  obtain ⟨c0, c1, c2, c3, rfl⟩ : ∃ a b c d, cs = [a, b, c, d] := by
    rcases cs with _ | ⟨a, _ | ⟨b, _ | ⟨c, _ | ⟨d, _ | _⟩⟩⟩⟩ <;> simp at hlen
    exact ⟨a, b, c, d, rfl⟩
  have h0 : DataW.trod enc Try.prog W base spare held n 5 (([c0, c1, c2, c3].drop 0).take (Try.prog.cellsOf 5)) = some y0 := hf 0 _ rfl
  have h1 : DataW.trod enc Try.prog W base spare held n 5 (([c0, c1, c2, c3].drop 1).take (Try.prog.cellsOf 5)) = some y1 := hf 1 _ rfl
  have h2 : DataW.trod enc Try.prog W base spare held n 5 (([c0, c1, c2, c3].drop 2).take (Try.prog.cellsOf 5)) = some y2 := hf 2 _ rfl
  have h3 : DataW.trod enc Try.prog W base spare held n 5 (([c0, c1, c2, c3].drop 3).take (Try.prog.cellsOf 5)) = some y3 := hf 3 _ rfl
  rw [hc1] at h0 h1 h2 h3
  obtain ⟨n0, e0, _, w0⟩ := DataW.trod_int Try.underlying5 h0
  obtain ⟨n1, e1, _, w1⟩ := DataW.trod_int Try.underlying5 h1
  obtain ⟨n2, e2, _, w2⟩ := DataW.trod_int Try.underlying5 h2
  obtain ⟨n3, e3, _, w3⟩ := DataW.trod_int Try.underlying5 h3
  obtain ⟨b0, rfl⟩ := u8_of_wf w0
  obtain ⟨b1, rfl⟩ := u8_of_wf w1
  obtain ⟨b2, rfl⟩ := u8_of_wf w2
  obtain ⟨b3, rfl⟩ := u8_of_wf w3
  simp at e0 e1 e2 e3
  exact ⟨⟨b0, b1, b2, b3⟩, by simp [Op4.vals, e0, e1, e2, e3]⟩

theorem open_ops {b0 : Nat} {v : Value} {d : DataW H} {p : List MemPlace}
    (hval : Value.okWide Try.prog W .any b0 27 v) (h : DataW.Trod enc Try.prog W 0 (fun _ => true) true 27 v d p) (hlt : ∀ x ∈ p, x.block < W.heap.size)
    (hsz : ∀ el sp, d = .slice el sp → el.length ≤ reachBytes) :
    ∃ A n c xs, v = .slice A n c ∧ Given W 4 A n c (opVals xs) ∧ xs.length = n := by
  obtain ⟨a0, len0, cap0, rfl⟩ := okWide_slice Try.underlying27 hval
  obtain ⟨fuel, hf⟩ := h
  rcases Go.Deep.open_slice Try.underlying27 hf with ⟨hcs, hx⟩ | ⟨a, len, cap, m, n, D, Pl, hcs, _, hl, hm, hmm, hx, hel⟩
  · simp [Value.cells] at hcs
    obtain ⟨rfl, rfl, rfl⟩ := hcs
    exact ⟨none, 0, 0, [], rfl, ⟨Reads.none_, Nat.le_refl _, by decide, by decide, fun _ => ⟨rfl, rfl⟩⟩, rfl⟩
  · simp [Value.cells] at hcs
    obtain ⟨rfl, rfl, rfl⟩ := hcs
    simp only [if_true] at hmm
    subst hmm
    have hc : Try.prog.cellsOf 33 = 4 := by kernel_rfl
    rw [hc] at hel hx
    simp only [Prod.mk.injEq] at hx
    obtain ⟨rfl, rfl⟩ := hx
    obtain ⟨xs, hxl, hxs⟩ := choose_list (p := fun i (o : Op4) => W.cells? 0 (a.add (i * 4)) 4 = some o.vals) len0 (fun i hi => by
      obtain ⟨cs', h1, h2⟩ := hel i (by omega)
      obtain ⟨o, ho⟩ := open_op h2
      exact ⟨o, by rw [h1, ho]⟩)
    refine ⟨some a, len0, m, xs, rfl, ⟨⟨by rw [opVals_length, hxl], fun h0 => ⟨a, rfl, ?_, ?_⟩⟩, hl, hm, ?_, fun h => by cases h⟩, hxl⟩
    · exact mem_row_block (show 0 < m * 4 by omega) (fun x hx => hlt x (List.mem_append_left _ hx))
    · intro j u hu
      have hj : j < (opVals xs).length := (List.getElem?_eq_some_iff.1 hu).1
      rw [opVals_length] at hj
      have hi : j / 4 < xs.length := by omega
      have ho : xs[j / 4]? = some xs[j / 4] := List.getElem?_eq_getElem hi
      have hcs := hxs (j / 4) _ ho
      have hr : j % 4 < (xs[j / 4]).vals.length := by simp only [Op4.vals, List.length_cons, List.length_nil]; omega
      have hg := opVals_get xs (j / 4) _ ho (j % 4) _ (List.getElem?_eq_getElem hr)
      rw [show j / 4 * 4 + j % 4 = j by omega, hu] at hg
      obtain ⟨_, _, hcell⟩ := World.cells?_some hcs
      have hc2 := hcell (j % 4) (by omega)
      rw [add_of_add, show j / 4 * 4 + j % 4 = j by omega] at hc2
      rw [hc2, hg]
      exact List.getElem?_eq_getElem hr
    · have := hsz _ _ rfl
      simpa using this
end

end Go.Proofs.Ytbfkmdcjamillaa
