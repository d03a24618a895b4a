/- Values as arguments: what a reading of an api.Value lays open: a tree, and its size by the bulk. -/
import Derived.Test.YtdccckoelnnnoaaDoorPaLd
import Derived.Test.YtdccckoelnnnoaaDoorVaP
import Derived.SizedLaws
namespace Go.Proofs.YtdccckoelnnnoaaDoor
open Go.ChangeShapes Go.WideShapes Go.ChangeAt Go.WideMaps Go.WideElems Go.RowKit

theorem bulk_one {H : Type} (d : DataW H) : 1 ≤ Rows.uptoBulk d := by
  cases d with
  | lit l => cases l <;> simp [Rows.uptoBulk]
  | nil => simp [Rows.uptoBulk]
  | ptr d => simp [Rows.uptoBulk]
  | slice elems spare => simp [Rows.uptoBulk]
  | agg parts => simp [Rows.uptoBulk]
  | iface t d => simp [Rows.uptoBulk]
  | map entries => simp [Rows.uptoBulk]
  | held h => simp [Rows.uptoBulk]
theorem bulk_mem {H : Type} {d : DataW H} {l : List (DataW H)} (h : d ∈ l) : Rows.uptoBulk d ≤ Rows.uptoBulkAll l := by
  induction l with
  | nil => cases h
  | cons x r ih =>
    simp only [Rows.uptoBulkAll]
    cases List.mem_cons.1 h with
    | inl e => subst e; omega
    | inr e => have := ih e; omega
theorem wt_mem {H : Type} {P : Program} {e : TypeId} : ∀ {l : List (DataW H)} {d : DataW H}, d ∈ l → ∀ n ∈ d.weights P e, n ∈ DataW.weightsAll P e l
  | [], _, h, _, _ => by cases h
  | x :: l, d, h, n, hn => by
    simp only [DataW.weightsAll, List.mem_append]
    cases List.mem_cons.1 h with
    | inl e => subst e; exact .inl hn
    | inr e => exact .inr (wt_mem e n hn)
theorem wt_slice {H : Type} {P : Program} {t e : TypeId} {elems spare : List (DataW H)} (ht : P.underlying t = some (.slice e)) (h : ((DataW.slice elems spare).weights P t).all (· ≤ reachBytes) = true) :
    (elems.length + spare.length) * P.bytesOf e ≤ reachBytes ∧ ∀ d ∈ elems, (d.weights P e).all (· ≤ reachBytes) = true := by
  have hw : (DataW.slice elems spare).weights P t = (elems.length + spare.length) * P.bytesOf e :: (DataW.weightsAll P e elems ++ DataW.weightsAll P e spare) := by simp [DataW.weights, ht]
  rw [hw, List.all_eq_true] at h
  refine ⟨by simpa using h _ (List.mem_cons_self ..), fun d hd => List.all_eq_true.2 fun n hn => h n (List.mem_cons_of_mem _ (List.mem_append_left _ (wt_mem hd n hn)))⟩
theorem wt_each {H : Type} {P : Program} {ts : List TypeId} {ds : List (DataW H)} {j : Nat} {t : TypeId} {d : DataW H} (h : (DataW.weightsEach P ts ds).all (· ≤ reachBytes) = true) (ht : ts[j]? = some t) (hd : ds[j]? = some d) : (d.weights P t).all (· ≤ reachBytes) = true :=
  List.all_eq_true.2 fun n hn => List.all_eq_true.1 h n (DataW.weights_mem_each ht hd n hn)
theorem wt_struct {H : Type} {P : Program} {t : TypeId} {fs : Array Field} {ds : List (DataW H)} (ht : P.underlying t = some (.struct fs)) (h : ((DataW.agg ds).weights P t).all (· ≤ reachBytes) = true) :
    (DataW.weightsEach P (fs.toList.map (·.type)) ds).all (· ≤ reachBytes) = true := by
  have hw : (DataW.agg ds).weights P t = DataW.weightsEach P (fs.toList.map (·.type)) ds := by simp [DataW.weights, ht]
  rw [← hw]
  exact h

section
variable {H : Type} {enc : TypeId × Value → H} {W : World}
set_option maxRecDepth 100000 in
/-- What a reading of a slice of k-cell things lays open, each thing by a reading of its own. -/
theorem open_row {α : Type} {g : α → List Value} {k : Nat} (hg : ∀ a, (g a).length = k) (hk : 0 < k) {t e : TypeId} (ht : Tryd.prog.underlying t = some (.slice e)) (hc : Tryd.prog.cellsOf e = k) {fuel : Nat} {c : Value} {x : DataW H × List MemPlace}
    (h : DataW.trod enc Tryd.prog W 0 (fun _ => true) true fuel t [c] = some x) (hlt : ∀ p ∈ x.2, p.block < W.heap.size)
    (hwt : (x.1.weights Tryd.prog t).all (· ≤ reachBytes) = true)
    {β : Type} {R : α → β → Prop}
    (hel : ∀ (fuel : Nat) (cs : List Value) (y : DataW H × List MemPlace), DataW.trod enc Tryd.prog W 0 (fun _ => true) true fuel e cs = some y → (∀ p ∈ y.2, p.block < W.heap.size) → Rows.uptoBulk y.1 < Rows.uptoBulk x.1 → (y.1.weights Tryd.prog e).all (· ≤ reachBytes) = true → ∃ o T, cs = g o ∧ R o T) :
    ∃ A n c' V L, c = .slice A n c' ∧ n ≤ c' ∧ RowA g k W (fun b => b < W.heap.size) A n V ∧ All2 R V L ∧ L.length * Tryd.prog.bytesOf e ≤ reachBytes := by
  rcases Go.Deep.open_slice ht h with ⟨hcs, hx⟩ | ⟨a, len, cap, q, n, D, Pl, hcs, _, hl, hm, hmm, hx, hxl⟩
  · simp only [List.cons.injEq, and_true] at hcs
    subst hcs
    exact ⟨none, 0, 0, [], [], rfl, Nat.le_refl _, RowA.nil_, All2.nil_, by simp⟩
  · simp only [List.cons.injEq, and_true] at hcs
    subst hcs
    simp only [if_true] at hmm
    subst hmm
    rw [hc] at hxl hx
    obtain ⟨d, ps⟩ := x
    simp only [Prod.mk.injEq] at hx
    obtain ⟨rfl, rfl⟩ := hx
    obtain ⟨hw1, hw2⟩ := wt_slice ht hwt
    obtain ⟨xs, hxn, hxs⟩ := choose_list (p := fun i (o : α × β) => W.cells? 0 (a.add (i * k)) k = some (g o.1) ∧ R o.1 o.2) len (fun i hi => by
      obtain ⟨cs', h1, h2⟩ := hxl i (by omega)
      have hmem : D i ∈ (List.range len).map D := List.mem_map.2 ⟨i, List.mem_range.2 hi, rfl⟩
      have hb := bulk_mem hmem
      obtain ⟨o, T, e1, e2⟩ := hel _ _ _ h2 (fun p hp => hlt p (List.mem_append_right _ (List.mem_flatMap.2 ⟨i, List.mem_range.2 (by omega), hp⟩))) (by simp only [Rows.uptoBulk]; omega) (hw2 _ hmem)
      exact ⟨(o, T), by rw [h1, e1], e2⟩)
    have hgl : (cells g (xs.map (·.1))).length = len * k := by rw [cells_length hg]; simp [hxn]
    refine ⟨some a, len, q, xs.map (·.1), xs.map (·.2), rfl, hl, ⟨⟨hgl, fun h0 => ⟨a, rfl, ?_, ?_⟩⟩, by simp [hxn], fun h0 ad e => ?_⟩, ⟨by simp, fun j u v hu hv => ?_⟩, ?_⟩
    · exact mem_row_block (Nat.mul_pos (show 0 < q by omega) hk) (fun x hx => hlt x (List.mem_append_left _ hx))
    · intro j u hu
      have hj : j < (cells g (xs.map (·.1))).length := (List.getElem?_eq_some_iff.1 hu).1
      rw [hgl] at hj
      have hi : j / k < xs.length := by rw [hxn]; exact Nat.div_lt_of_lt_mul (by rw [Nat.mul_comm]; exact hj)
      have ho : xs[j / k]? = some xs[j / k] := List.getElem?_eq_getElem hi
      have hcs := (hxs (j / k) _ ho).1
      have hr : j % k < (g (xs[j / k]).1).length := by rw [hg]; exact Nat.mod_lt _ hk
      have hg' := cells_get hg (xs.map (·.1)) (j / k) (xs[j / k]).1 (by simp [ho]) (j % k) _ (List.getElem?_eq_getElem hr)
      rw [show j / k * k + j % k = j by rw [Nat.mul_comm]; exact Nat.div_add_mod j k, hu] at hg'
      obtain ⟨_, _, hcell⟩ := World.cells?_some hcs
      have hc2 := hcell (j % k) (Nat.mod_lt _ hk)
      rw [add_of_add, show j / k * k + j % k = j by rw [Nat.mul_comm]; exact Nat.div_add_mod j k] at hc2
      rw [hc2, hg']
      exact List.getElem?_eq_getElem hr
    · injection e with e
      subst e
      exact mem_row_block (Nat.mul_pos (show 0 < q by omega) hk) (fun x hx => hlt x (List.mem_append_left _ hx))
    · have hj : j < xs.length := by have := (List.getElem?_eq_some_iff.1 hu).1; simpa using this
      have ho : xs[j]? = some xs[j] := List.getElem?_eq_getElem hj
      simp [ho] at hu hv
      subst hu hv
      exact (hxs j _ ho).2
    · simp only [List.length_map, List.length_range] at hw1 ⊢
      rw [hxn]
      exact Nat.le_trans (Nat.mul_le_mul_right _ (Nat.le_add_right _ _)) hw1

def OpenV (enc : TypeId × Value → H) (W : World) (N : Nat) : Prop := ∀ (fuel : Nat) (cs : List Value) (x : DataW H × List MemPlace), DataW.trod enc Tryd.prog W 0 (fun _ => true) true fuel 25 cs = some x → (∀ p ∈ x.2, p.block < W.heap.size) → Rows.uptoBulk x.1 ≤ N → (x.1.weights Tryd.prog 25).all (· ≤ reachBytes) = true →
  ∃ (v : VC) (T : VT), cs = v.vals ∧ VAt W (fun b => b < W.heap.size) (N + 1) v T ∧ T.size ≤ 140737488351232
set_option maxRecDepth 100000 in
theorem open_v_step (N : Nat) (ih : ∀ M, M < N → OpenV enc W M) : OpenV enc W N := by
  intro fuel cs x h hlt hN hwt
  obtain ⟨ys, n, _, hxe, hlen, hyl, hf⟩ := DataW.trod_struct Tryd.underlying25 h
  have hc : Tryd.prog.cellsOf 25 = 6 := by kernel_rfl
  have hc1 : Tryd.prog.cellsOf 3 = 1 := by kernel_rfl
  have hcL : Tryd.prog.cellsOf 22 = 1 := by kernel_rfl
  have hcF : Tryd.prog.cellsOf 23 = 1 := by kernel_rfl
  have hcs1 : Tryd.prog.cellsOf 9 = 1 := by kernel_rfl
  have hc7 : Tryd.prog.cellsOf 72 = 7 := by kernel_rfl
  rw [hc] at hlen
  replace hyl : ys.length = 6 := hyl
  obtain ⟨y0, y1, y2, y3, y4, y5, rfl⟩ : ∃ a b c d e f, ys = [a, b, c, d, e, f] := by
    rcases ys with _ | ⟨a, _ | ⟨b, _ | ⟨c, _ | ⟨d, _ | ⟨e, _ | ⟨f, _ | _⟩⟩⟩⟩⟩⟩ <;> simp at hyl
    exact ⟨a, b, c, d, e, f, rfl⟩
  obtain ⟨c0, c1, c2, c3, c4, c5, rfl⟩ : ∃ a b c d e f, cs = [a, b, c, d, e, f] := by
    rcases cs with _ | ⟨a, _ | ⟨b, _ | ⟨c, _ | ⟨d, _ | ⟨e, _ | ⟨f, _ | _⟩⟩⟩⟩⟩⟩ <;> simp at hlen
    exact ⟨a, b, c, d, e, f, rfl⟩
  have h0 : DataW.trod enc Tryd.prog W 0 (fun _ => true) true n 3 (([c0, c1, c2, c3, c4, c5].drop 0).take (Tryd.prog.cellsOf 3)) = some y0 := hf 0 _ rfl
  have h1 : DataW.trod enc Tryd.prog W 0 (fun _ => true) true n 3 (([c0, c1, c2, c3, c4, c5].drop 1).take (Tryd.prog.cellsOf 3)) = some y1 := hf 1 _ rfl
  have h2 : DataW.trod enc Tryd.prog W 0 (fun _ => true) true n 3 (([c0, c1, c2, c3, c4, c5].drop 2).take (Tryd.prog.cellsOf 3)) = some y2 := hf 2 _ rfl
  have h3 : DataW.trod enc Tryd.prog W 0 (fun _ => true) true n 9 (([c0, c1, c2, c3, c4, c5].drop 3).take (Tryd.prog.cellsOf 9)) = some y3 := hf 3 _ rfl
  have h4 : DataW.trod enc Tryd.prog W 0 (fun _ => true) true n 22 (([c0, c1, c2, c3, c4, c5].drop 4).take (Tryd.prog.cellsOf 22)) = some y4 := hf 4 _ rfl
  have h5 : DataW.trod enc Tryd.prog W 0 (fun _ => true) true n 23 (([c0, c1, c2, c3, c4, c5].drop 5).take (Tryd.prog.cellsOf 23)) = some y5 := hf 5 _ rfl
  clear hf h
  rw [hc1] at h0 h1 h2
  rw [hcs1] at h3
  rw [hcL] at h4
  rw [hcF] at h5
  obtain ⟨n0, e0, rfl, _⟩ := DataW.trod_int Tryd.underlying3 h0
  obtain ⟨n1, e1, rfl, _⟩ := DataW.trod_int Tryd.underlying3 h1
  obtain ⟨n2, e2, rfl, _⟩ := DataW.trod_int Tryd.underlying3 h2
  obtain ⟨s3, e3, rfl, _⟩ := DataW.trod_string Tryd.underlying9 h3
  simp at e0 e1 e2 e3 h4 h5
  subst e0 e1 e2 e3
  subst hxe
  have hwe := wt_struct Tryd.underlying25 hwt
  have hw4 : (y4.1.weights Tryd.prog 22).all (· ≤ reachBytes) = true := wt_each (j := 4) hwe rfl rfl
  have hw5 : (y5.1.weights Tryd.prog 23).all (· ≤ reachBytes) = true := wt_each (j := 5) hwe rfl rfl
  clear hwe hwt
  simp only [List.map_cons, List.map_nil, List.flatMap_cons, List.flatMap_nil, List.append_nil, List.nil_append, Rows.uptoBulk, Rows.uptoBulkAll] at hN hlt ⊢
  have b5 := bulk_one y5.1
  have b4 := bulk_one y4.1
  obtain ⟨N, rfl⟩ : ∃ M, N = M + 1 := ⟨N - 1, by omega⟩
  obtain ⟨Al, nl, cl, V, L, rfl, hnl, hV, hA, hsL⟩ := open_row (g := VC.vals) (k := 6) vlen (by omega) Tryd.underlying22 hc h4 (fun p hp => hlt p (List.mem_append_left _ hp)) hw4 (R := fun (c : VC) (x : VT) => VAt W (fun b => b < W.heap.size) (N + 1) c x ∧ x.size ≤ 140737488351232) (by
    intro fu cs' y hy hyl hb hwy
    obtain ⟨o, T, e1, e2, e3⟩ := ih N (by omega) fu cs' y hy hyl (by omega) hwy
    exact ⟨o, T, e1, e2, e3⟩)
  obtain ⟨Af, nf, cf, F, L', rfl, hnf, hF, hB, hsF⟩ := open_row (g := FC.vals) (k := 7) flen (by omega) Tryd.underlying23 hc7 h5 (fun p hp => hlt p (List.mem_append_right _ hp)) hw5 (R := fun (c : FC) (x : ByteArray × VT) => (c.n = x.1 ∧ VAt W (fun b => b < W.heap.size) (N + 1) c.v x.2) ∧ x.2.size ≤ 140737488351232) (by
    intro fu cs' y hy hyl hb hwy
    obtain ⟨zs, n', _, hze, hzlen, hzl, hzf⟩ := DataW.trod_struct Tryd.underlying72 hy
    rw [hc7] at hzlen
    replace hzl : zs.length = 2 := hzl
    obtain ⟨z0, z1, rfl⟩ : ∃ a b, zs = [a, b] := by
      rcases zs with _ | ⟨a, _ | ⟨b, _ | _⟩⟩ <;> simp at hzl
      exact ⟨a, b, rfl⟩
    obtain ⟨q0, r, rfl⟩ : ∃ a l, cs' = a :: l := by
      rcases cs' with _ | ⟨a, l⟩
      · simp at hzlen
      · exact ⟨a, l, rfl⟩
    have g0 : DataW.trod enc Tryd.prog W 0 (fun _ => true) true n' 9 (((q0 :: r).drop 0).take (Tryd.prog.cellsOf 9)) = some z0 := hzf 0 _ rfl
    have g1 : DataW.trod enc Tryd.prog W 0 (fun _ => true) true n' 25 (((q0 :: r).drop 1).take (Tryd.prog.cellsOf 25)) = some z1 := hzf 1 _ rfl
    clear hzf hy
    rw [hcs1] at g0
    rw [hc] at g1
    obtain ⟨s, es, rfl, _⟩ := DataW.trod_string Tryd.underlying9 g0
    simp at es
    subst es
    have hrl : r.length = 6 := by rw [List.length_cons] at hzlen; omega
    have hr : (((Value.string s :: r).drop 1).take 6) = r := by rw [List.drop_succ_cons, List.drop_zero, List.take_of_length_le (by omega)]
    rw [hr] at g1
    subst hze
    have hw1 : (z1.1.weights Tryd.prog 25).all (· ≤ reachBytes) = true := wt_each (j := 1) (wt_struct Tryd.underlying72 hwy) rfl rfl
    simp only [List.map_cons, List.map_nil, List.flatMap_cons, List.flatMap_nil, List.append_nil, List.nil_append, Rows.uptoBulk, Rows.uptoBulkAll] at hyl hb ⊢
    obtain ⟨o, T, e1, e2, e3⟩ := ih N (by omega) n' r z1 g1 hyl (by omega) hw1
    exact ⟨⟨s, o⟩, (s, T), by rw [e1]; rfl, ⟨rfl, e2⟩, e3⟩)
  refine ⟨⟨n0, n1, n2, s3, Al, nl, cl, Af, nf, cf⟩, .mk n0 n1 n2 s3 L L', rfl, ⟨⟨rfl, rfl, rfl, rfl, hnl, hnf⟩, ⟨V, hV, hA.1, fun j a b ha hb => (hA.2 j a b ha hb).1⟩, ⟨F, hF, hB.1, fun j a b ha hb => (hB.2 j a b ha hb).1⟩⟩, ?_⟩
  have hbL : Tryd.prog.bytesOf 25 = 88 := by kernel_rfl
  have hbF : Tryd.prog.bytesOf 72 = 104 := by kernel_rfl
  rw [hbL] at hsL
  rw [hbF] at hsF
  have h1 : sizeL L ≤ 140737488351232 := sizeL_le (by simp only [reachBytes] at hsL; omega) fun x hx => by
    obtain ⟨j, hj⟩ := List.getElem?_of_mem hx
    have hl : j < V.length := by rw [hA.1]; exact (List.getElem?_eq_some_iff.1 hj).1
    exact (hA.2 j _ x (List.getElem?_eq_getElem hl) hj).2
  have h2 : sizeF L' ≤ 140737488351232 := sizeF_le (by simp only [reachBytes] at hsF; omega) fun x hx => by
    obtain ⟨j, hj⟩ := List.getElem?_of_mem hx
    have hl : j < F.length := by rw [hB.1]; exact (List.getElem?_eq_some_iff.1 hj).1
    exact (hB.2 j _ x (List.getElem?_eq_getElem hl) hj).2
  simp only [VT.size]
  omega
theorem open_v (N : Nat) : OpenV enc W N := by
  induction N using Nat.strongRecOn with
  | ind N ih => exact open_v_step N ih

set_option maxRecDepth 100000 in
/-- An argument of type api.Value: its six cells, a tree, and the tree's size. -/
theorem open_val {b0 : Nat} {v : Value} {d : DataW H} {p : List MemPlace}
    (hval : Value.okWide Tryd.prog W .any b0 25 v) (h : DataW.Trod enc Tryd.prog W 0 (fun _ => true) true 25 v d p) (hlt : ∀ x ∈ p, x.block < W.heap.size) (hwt : (d.weights Tryd.prog 25).all (· ≤ reachBytes) = true) :
    ∃ (c : VC) (T : VT) (n : Nat), v = .agg #[.int .i64 c.k, .int .i64 c.i, .int .i64 c.s, .string c.t, .slice c.la c.ln c.lc, .slice c.fa c.fn c.fc] ∧ VAt W (fun b => b < W.heap.size) n c T ∧ T.size ≤ 140737488351232 := by
  obtain ⟨cs, rfl, _⟩ := okWide_struct Tryd.underlying25 hval
  obtain ⟨fuel, hf⟩ := h
  obtain ⟨c, T, e1, e2, e3⟩ := open_v (enc := enc) (W := W) (Rows.uptoBulk d) fuel _ _ hf hlt (Nat.le_refl _) hwt
  refine ⟨c, T, _, ?_, e2, e3⟩
  have : cs.toList = c.vals := e1
  obtain ⟨l⟩ := cs
  simp only at this
  subst this
  rfl
end
end Go.Proofs.YtdccckoelnnnoaaDoor
