/- Proved: Delete returns any value of at most 300 values in 12 levels without what is at any list of at most 20 parts, or the first error; deleting a field that Set has added leads back (the tied card PathDeletesCardSaid); no condition but that the library's listed tables are as the program's text lays them (the card ties them). -/
import Derived.Test.YtdccckoelnnnoaaGreatDoorRows
import Derived.Test.YtdccckoelnnnoaaGreatDoorKnA
import Derived.ProofKit
import Derived.OpenShut
import Derived.ShutString
import Derived.SizedLaws
import Derived.LaidMore
import Derived.Stop.Joined
import Derived.Stop.LaidErr
import Derived.HandedShaped
import Derived.Lib.LaidTab
import Derived.Lib.SmallJoins
import Derived.Lay
import Derived.Deep.Slices
import Derived.ChangeSlices
import Derived.ChangeArms
import Derived.Test.YtdccckoelnnnoaaGreatDoorVaP
import Derived.Test.YtdccckoelnnnoaaGreatDoorDeL
import Derived.Test.YtdccckoelnnnoaaGreatDoorTie
import Derived.Test.YtdccckoelnnnoaaGreatDoorCards
import Derived.SevenTiedAt
import Derived.Carry
namespace Go.Proofs.YtdccckoelnnnoaaGreatDoor
open Go.ChangeShapes Go.WideShapes Go.ChangeAt Go.WideMaps Go.WideElems Go.RowKit

theorem Tryz.own' : ownKnob Tryz.prog.godebug = none := by kernel_rfl
theorem Tryz.laidOut : laidOutB Tryz.prog = true := by kernel_rfl
theorem tPow' : (Tryz.prog.globals[3]?).map (·.type) = some 137 := by kernel_rfl

section
variable {H : Type} {enc : TypeId × Value → H} {P : Program}
theorem post_of_below {f : Func} {s : ChangeSpec} {apart fresh handsOn again : Bool} {W W' : World} {args : Array Value} {v : Value} {ds gs : List (DataW H)} {before pa pv : List MemPlace}
    (hW : DataW.Whole enc P f.params.toList s.vars apart W args.toList ds gs before)
    (hres : ∀ (b : Nat) (sp : Nat → Bool) (hd : Bool), DataW.TrodAll enc P W' b sp hd f.resultTypes.toList (v.resultList f.resultTypes.size) (s.fn H (ds ++ gs)).results [])
    (hargs : ∀ sp : Nat → Bool, (∀ p ∈ before, sp p.block = true) → DataW.TrodAll enc P W' 0 sp true f.params.toList args.toList (s.fn H (ds ++ gs)).args pa)
    (hvars : ∀ sp : Nat → Bool, (∀ p ∈ before, sp p.block = true) → DataW.TrodVars enc P W' sp s.vars (s.fn H (ds ++ gs)).vars pv)
    (hps : before = pa ++ pv) (hb : Below W.heap.size W W')
    (hok : ∀ (j : Nat) (t : TypeId) (r : Value), f.resultTypes[j]? = some t → (v.resultList f.resultTypes.size)[j]? = some r → Value.okWide P W' .any 0 t r) :
    s.post enc P f apart fresh handsOn again W args v W' := by
  have hlt : ∀ p ∈ before, p.block < W.heap.size := fun p hp => hW.lt p hp
  have hold : ∀ p ∈ before, (fun b => decide (b < W.heap.size)) p.block = true := fun p hp => by simpa using hlt p hp
  refine ⟨ds, gs, before, [], pa, pv, hW, hres _ _ _, hargs _ hold, hvars _ hold, World.keptBut_mono (fun p hp => ⟨hp, ?_⟩) (hb.frame (· ∈ before)), fun _ => ?_⟩
  · rw [hps, List.mem_append] at hp
    exact Or.inr hp
  · obtain ⟨_, _, _, _, _, hz, hn⟩ := hW
    refine ⟨hok, _, _, ([] ++ pa) ++ pv, ⟨[] ++ pa, pv, trodAll_append (hargs _ (fun _ _ => rfl)) (hres _ _ _), hvars _ (fun _ _ => rfl), rfl, ?_, ?_⟩, ?_⟩
    · intro b off hp
      have hin : MemPlace.cell b off ∈ before := by rw [hps]; simpa using hp
      rw [hb.frozen (hlt _ hin)]
      exact hz b off hin
    · intro ha
      have := hn ha
      rw [hps] at this
      simpa using this
    · intro p hp _
      rw [hps]
      simpa using hp
end
theorem starErr : "*" ++ "errors.errorString" = "*errors.errorString" := by decide
theorem rowErr : ∀ u, Tryz.prog.typeName? 3 u = some "*errors.errorString" → u = 133 := fun u h =>
  typeName_ptr_named (nm := "errors.errorString") (by rw [starErr]; kernel_rfl) (by kernel_rfl) (by decide) u (by rw [starErr]; exact h)
theorem var_cell0 {W : World} {n : String} {g : Nat} {v : Value} (hg : Tryz.prog.globalNamed n = some g) (h : W.var? Tryz.prog n = some #[v]) : W.cell? ⟨g, 0, none⟩ = some v := World.var?_cell hg h 0
theorem of_std {W : World} (h : laidMetH Tryz.prog Rows.pathDeletesRow.laid W) (hsh : W.ShapedOpen Tryz.prog) : Std W := by
  rw [MakeChecks.laidMetH_plain _ _ _ (by kernel_rfl)] at h
  have hT : CalTab W := by
    obtain ⟨ps, ⟨g0, t0, cs0, f0, p0, q0, hg0, ht0, hv0, hd0, ⟨g1, t1, cs1, f1, p1, q1, hg1, ht1, hv1, hd1, ⟨g2, t2, cs2, f2, p2, q2, hg2, ht2, hv2, hd2, _, _⟩, _⟩, _⟩, _⟩ := h
    obtain rfl := Option.some.inj (gPow'.symm.trans hg2)
    obtain rfl := Option.some.inj (tPow'.symm.trans ht2)
    unfold CalTab Lib.TabIs
    rw [hv2, ← Lib.cells_of_tab Tryz.underlying137 Tryz.underlying116 (by kernel_rfl) (by kernel_rfl) (zs := Lib.pow10Tab) hd2]
  have h3 := h.tail.tail.tail
  obtain ⟨a0, s0, hv0, _⟩ := laid_sentinel (g := 2) h3 (by kernel_rfl) (by kernel_rfl) Tryz.underlying89 rowErr Tryz.underlying133 Tryz.underlying135 rfl rfl Tryz.underlying9 (by kernel_rfl) (by kernel_rfl)
  obtain ⟨a1, s1, hv1, _⟩ := laid_sentinel (g := 1) h3.tail (by kernel_rfl) (by kernel_rfl) Tryz.underlying89 rowErr Tryz.underlying133 Tryz.underlying135 rfl rfl Tryz.underlying9 (by kernel_rfl) (by kernel_rfl)
  exact ⟨hT, Tryz.laysM145.s1_3 W hsh, ⟨_, _, var_cell0 (by kernel_rfl) hv1⟩, ⟨_, _, var_cell0 (by kernel_rfl) hv0⟩⟩

theorem handed_and_shaped {H : Type} {enc : TypeId × Value → H} {a : Assume} {C : Checked} {os : Os} {f : FuncId} {fn : Func} {s : ChangeSpec} {conds : List PathCond} {apart fresh handsOn again : Bool} {X : World → Array Value → Prop}
    (hX : ∀ (w w' : World) (args : Array Value), w.heap = w'.heap → X w args → X w' args)
    (own : ownKnob C.prog.godebug = none) (started : os.Started) (noInit : C.prog.inits.idxOf? f = none) (hfn : C.prog.funcs[f]? = some fn)
    (witness : ∃ (w : World) (tape : Tape) (i : Input), w.os = os ∧ (w.forCall tape i).Shaped C.prog ∧ i.vars = [] ∧ Input.okWide C.prog (w.forCall tape i) .any w.heap.size f i ∧
      ((s.pre enc C.prog fn conds apart (w.forCall tape i).memory i.args ∧ X (w.forCall tape i).memory i.args) ∧ sizedMet enc C.prog fn (OpenSpec.ofChange s) apart (w.forCall tape i).memory i.args) ∧ a.holds C.prog (lone (Frame.enter C.prog f i.args .normal) [] (w.forCall tape i)))
    (contract : ∀ (W : World) (base : Nat) (args : Array Value) (ds gs : List (DataW H)) (before : List MemPlace),
      (∀ (j : Nat) t v, fn.params[j]? = some t → args[j]? = some v → Value.okWide C.prog W .any base t v) →
      DataW.Whole enc C.prog fn.params.toList s.vars apart W args.toList ds gs before →
      conds.all (PathCond.test C.prog ⟨fn.params.toList, ds, s.plain.varTypes C.prog, gs⟩) = true →
      (DataW.weightsEach C.prog (fn.params.toList ++ s.plain.varTypes C.prog) (ds ++ gs)).all (· ≤ reachBytes) = true → X W args → W.ShapedOpen C.prog →
      a.holds C.prog (lone (Frame.enter C.prog f args .normal) [] W) →
      Calls C.prog f args W fun e W' => ∃ v, e = .returned v ∧ s.post enc C.prog fn apart fresh handsOn again W args v W') :
    ReturnsInHanded a C os f .any (fun w args => (s.pre enc C.prog fn conds apart w args ∧ X w args) ∧ sizedMet enc C.prog fn (OpenSpec.ofChange s) apart w args) (s.post enc C.prog fn apart fresh handsOn again) := by
  refine returnsInHanded_of_calls own started noInit witness ?_
  intro w tape i _ hsh _ hok hpre hholds
  obtain ⟨_, _, _, fn', hfn', _, _, _, _, hval⟩ := hok
  have e : fn' = fn := Option.some.inj (hfn'.symm.trans hfn)
  subst e
  obtain ⟨⟨⟨ds, gs, before, hw, hc⟩, hx⟩, hz⟩ := hpre
  have hw' := DataW.Whole.of_heap (w' := w.forCall tape i) (by rfl) hw
  refine (contract (w.forCall tape i) w.heap.size i.args ds gs before hval hw' hc (hz.weights hw) (hX _ _ _ (by rfl) hx) hsh hholds).mono fun e W' ⟨v, he, hp⟩ => ?_
  subst he
  exact ChangeSpec.post_blind hp

section
variable {W : World}
theorem mem_row_block {a : Addr} {n : Nat} (hn : 0 < n) (hlt : ∀ x ∈ MemPlace.row a n, x.block < W.heap.size) : a.block < W.heap.size := by
  exact hlt (MemPlace.cell a.block (a.off + 0)) (List.mem_map.2 ⟨0, List.mem_range.2 hn, rfl⟩)

end
theorem choose_list {α : Type} {p : Nat → α → Prop} : ∀ n : Nat, (∀ i, i < n → ∃ a, p i a) → ∃ l : List α, l.length = n ∧ ∀ i a, l[i]? = some a → p i a
  | 0, _ => ⟨[], rfl, fun i a h => by simp at h⟩
  | n + 1, h => by
    obtain ⟨l, hl, hp⟩ := choose_list n (fun i hi => h i (by omega))
    obtain ⟨a, ha⟩ := h n (by omega)
    refine ⟨l ++ [a], by simp [hl], fun i x hx => ?_⟩
    rcases Nat.lt_or_ge i n with hi | hi
    · rw [List.getElem?_append_left (by omega)] at hx
      exact hp i x hx
    · have hi2 : i < (l ++ [a]).length := (List.getElem?_eq_some_iff.1 hx).1
      simp only [List.length_append, List.length_singleton] at hi2
      obtain rfl : i = n := by omega
      rw [← hl] at hx
      simp at hx
      rw [← hx]
      exact ha

section
variable {H : Type} {enc : TypeId × Value → H} {W : World}
set_option maxRecDepth 100000 in
theorem open_pt {base : Nat} {spare : Nat → Bool} {held : Bool} {fuel : Nat} {cs : List Value} {x : DataW H × List MemPlace} (h : DataW.trod enc Tryz.prog W base spare held fuel 38 cs = some x) : ∃ o : Pt, cs = o.vals := by
  obtain ⟨ys, n, _, _, hlen, hyl, hf⟩ := DataW.trod_struct Tryz.underlying38 h
  have hc : Tryz.prog.cellsOf 38 = 3 := by kernel_rfl
  have hc1 : Tryz.prog.cellsOf 3 = 1 := by kernel_rfl
  rw [hc] at hlen
  replace hyl : ys.length = 3 := hyl
  obtain ⟨y0, y1, y2, rfl⟩ : ∃ a b c, ys = [a, b, c] := by
    rcases ys with _ | ⟨a, _ | ⟨b, _ | ⟨c, _ | _⟩⟩⟩ <;> simp at hyl
    exact ⟨a, b, c, rfl⟩
  obtain ⟨c0, c1, c2, rfl⟩ : ∃ a b c, cs = [a, b, c] := by
    rcases cs with _ | ⟨a, _ | ⟨b, _ | ⟨c, _ | _⟩⟩⟩ <;> simp at hlen
    exact ⟨a, b, c, rfl⟩
  have h0 : DataW.trod enc Tryz.prog W base spare held n 3 (([c0, c1, c2].drop 0).take (Tryz.prog.cellsOf 3)) = some y0 := hf 0 _ rfl
  have h1 : DataW.trod enc Tryz.prog W base spare held n 3 (([c0, c1, c2].drop 1).take (Tryz.prog.cellsOf 3)) = some y1 := hf 1 _ rfl
  have h2 : DataW.trod enc Tryz.prog W base spare held n 9 (([c0, c1, c2].drop 2).take (Tryz.prog.cellsOf 9)) = some y2 := hf 2 _ rfl
  rw [hc1] at h0 h1
  rw [show Tryz.prog.cellsOf 9 = 1 by kernel_rfl] at h2
  obtain ⟨n0, e0, _, w0⟩ := DataW.trod_int Tryz.underlying3 h0
  obtain ⟨n1, e1, _, w1⟩ := DataW.trod_int Tryz.underlying3 h1
  obtain ⟨s2, e2, _⟩ := DataW.trod_string Tryz.underlying9 h2
  simp at e0 e1 e2
  exact ⟨⟨n0, n1, s2⟩, by simp [Pt.vals, e0, e1, e2]⟩

set_option maxRecDepth 100000 in
theorem open_pts {b0 : Nat} {v : Value} {d : DataW H} {p : List MemPlace}
    (hval : Value.okWide Tryz.prog W .any b0 26 v) (h : DataW.Trod enc Tryz.prog W 0 (fun _ => true) true 26 v d p) (hlt : ∀ x ∈ p, x.block < W.heap.size) :
    ∃ A n c xs, v = .slice A n c ∧ Pts W A n xs := by
  obtain ⟨a0, len0, cap0, rfl⟩ := okWide_slice Tryz.underlying26 hval
  obtain ⟨fuel, hf⟩ := h
  rcases Go.Deep.open_slice Tryz.underlying26 hf with ⟨hcs, hx⟩ | ⟨a, len, cap, m, n, D, Pl, hcs, _, hl, hm, hmm, hx, hel⟩
  · simp [Value.cells] at hcs
    obtain ⟨rfl, rfl, rfl⟩ := hcs
    exact ⟨none, 0, 0, [], rfl, Pts.nil_⟩
  · simp [Value.cells] at hcs
    obtain ⟨rfl, rfl, rfl⟩ := hcs
    simp only [if_true] at hmm
    subst hmm
    have hc : Tryz.prog.cellsOf 38 = 3 := by kernel_rfl
    rw [hc] at hel hx
    simp only [Prod.mk.injEq] at hx
    obtain ⟨rfl, rfl⟩ := hx
    obtain ⟨xs, hxl, hxs⟩ := choose_list (p := fun i (o : Pt) => W.cells? 0 (a.add (i * 3)) 3 = some o.vals) len0 (fun i hi => by
      obtain ⟨cs', h1, h2⟩ := hel i (by omega)
      obtain ⟨o, ho⟩ := open_pt h2
      exact ⟨o, by rw [h1, ho]⟩)
    refine ⟨some a, len0, m, xs, rfl, ⟨⟨by rw [ptVals_length, hxl], fun h0 => ⟨a, rfl, ?_, ?_⟩⟩, hxl⟩⟩
    · exact mem_row_block (show 0 < m * 3 by omega) (fun x hx => hlt x (List.mem_append_left _ hx))
    · intro j u hu
      have hj : j < (ptVals xs).length := (List.getElem?_eq_some_iff.1 hu).1
      rw [ptVals_length] at hj
      have hi : j / 3 < xs.length := by omega
      have ho : xs[j / 3]? = some xs[j / 3] := List.getElem?_eq_getElem hi
      have hcs := hxs (j / 3) _ ho
      have hr : j % 3 < (xs[j / 3]).vals.length := by simp only [Pt.vals, List.length_cons, List.length_nil]; omega
      have hg := ptVals_get xs (j / 3) _ ho (j % 3) _ (List.getElem?_eq_getElem hr)
      rw [show j / 3 * 3 + j % 3 = j by omega, hu] at hg
      obtain ⟨_, _, hcell⟩ := World.cells?_some hcs
      have hc2 := hcell (j % 3) (by omega)
      rw [add_of_add, show j / 3 * 3 + j % 3 = j by omega] at hc2
      rw [hc2, hg]
      exact List.getElem?_eq_getElem hr
end

end Go.Proofs.YtdccckoelnnnoaaGreatDoor

namespace Go.Proofs.YtdccckoelnnnoaaGreatDoor
open Go.ChangeShapes Go.WideShapes Go.ChangeAt Go.WideMaps Go.WideElems Go.RowKit

theorem bulk_one {H : Type} (d : DataW H) : 1 ≤ Rows.uptoBulk d := by
  cases d with
  | lit l => cases l <;> simp [Rows.uptoBulk]
  | nil => simp [Rows.uptoBulk]
  | ptr d => simp [Rows.uptoBulk]
  | slice elems spare => simp [Rows.uptoBulk]
  | agg parts => simp [Rows.uptoBulk]
  | iface t d => simp [Rows.uptoBulk]
  | map entries => simp [Rows.uptoBulk]
  | held h => simp [Rows.uptoBulk]
theorem bulk_mem {H : Type} {d : DataW H} {l : List (DataW H)} (h : d ∈ l) : Rows.uptoBulk d ≤ Rows.uptoBulkAll l := by
  induction l with
  | nil => cases h
  | cons x r ih =>
    simp only [Rows.uptoBulkAll]
    cases List.mem_cons.1 h with
    | inl e => subst e; omega
    | inr e => have := ih e; omega
theorem wt_mem {H : Type} {P : Program} {e : TypeId} : ∀ {l : List (DataW H)} {d : DataW H}, d ∈ l → ∀ n ∈ d.weights P e, n ∈ DataW.weightsAll P e l
  | [], _, h, _, _ => by cases h
  | x :: l, d, h, n, hn => by
    simp only [DataW.weightsAll, List.mem_append]
    cases List.mem_cons.1 h with
    | inl e => subst e; exact .inl hn
    | inr e => exact .inr (wt_mem e n hn)
theorem wt_slice {H : Type} {P : Program} {t e : TypeId} {elems spare : List (DataW H)} (ht : P.underlying t = some (.slice e)) (h : ((DataW.slice elems spare).weights P t).all (· ≤ reachBytes) = true) :
    (elems.length + spare.length) * P.bytesOf e ≤ reachBytes ∧ ∀ d ∈ elems, (d.weights P e).all (· ≤ reachBytes) = true := by
  have hw : (DataW.slice elems spare).weights P t = (elems.length + spare.length) * P.bytesOf e :: (DataW.weightsAll P e elems ++ DataW.weightsAll P e spare) := by simp [DataW.weights, ht]
  rw [hw, List.all_eq_true] at h
  refine ⟨by simpa using h _ (List.mem_cons_self ..), fun d hd => List.all_eq_true.2 fun n hn => h n (List.mem_cons_of_mem _ (List.mem_append_left _ (wt_mem hd n hn)))⟩
theorem wt_each {H : Type} {P : Program} {ts : List TypeId} {ds : List (DataW H)} {j : Nat} {t : TypeId} {d : DataW H} (h : (DataW.weightsEach P ts ds).all (· ≤ reachBytes) = true) (ht : ts[j]? = some t) (hd : ds[j]? = some d) : (d.weights P t).all (· ≤ reachBytes) = true :=
  List.all_eq_true.2 fun n hn => List.all_eq_true.1 h n (DataW.weights_mem_each ht hd n hn)
theorem wt_struct {H : Type} {P : Program} {t : TypeId} {fs : Array Field} {ds : List (DataW H)} (ht : P.underlying t = some (.struct fs)) (h : ((DataW.agg ds).weights P t).all (· ≤ reachBytes) = true) :
    (DataW.weightsEach P (fs.toList.map (·.type)) ds).all (· ≤ reachBytes) = true := by
  have hw : (DataW.agg ds).weights P t = DataW.weightsEach P (fs.toList.map (·.type)) ds := by simp [DataW.weights, ht]
  rw [← hw]
  exact h

section
variable {H : Type} {enc : TypeId × Value → H} {W : World}
set_option maxRecDepth 100000 in
/-- What a reading of a slice of k-cell things lays open, each thing by a reading of its own. -/
theorem open_row {α : Type} {g : α → List Value} {k : Nat} (hg : ∀ a, (g a).length = k) (hk : 0 < k) {t e : TypeId} (ht : Tryz.prog.underlying t = some (.slice e)) (hc : Tryz.prog.cellsOf e = k) {fuel : Nat} {c : Value} {x : DataW H × List MemPlace}
    (h : DataW.trod enc Tryz.prog W 0 (fun _ => true) true fuel t [c] = some x) (hlt : ∀ p ∈ x.2, p.block < W.heap.size)
    (hwt : (x.1.weights Tryz.prog t).all (· ≤ reachBytes) = true)
    {β : Type} {R : α → β → Prop}
    (hel : ∀ (fuel : Nat) (cs : List Value) (y : DataW H × List MemPlace), DataW.trod enc Tryz.prog W 0 (fun _ => true) true fuel e cs = some y → (∀ p ∈ y.2, p.block < W.heap.size) → Rows.uptoBulk y.1 < Rows.uptoBulk x.1 → (y.1.weights Tryz.prog e).all (· ≤ reachBytes) = true → ∃ o T, cs = g o ∧ R o T) :
    ∃ A n c' V L, c = .slice A n c' ∧ n ≤ c' ∧ RowA g k W (fun b => b < W.heap.size) A n V ∧ All2 R V L ∧ L.length * Tryz.prog.bytesOf e ≤ reachBytes := by
  rcases Go.Deep.open_slice ht h with ⟨hcs, hx⟩ | ⟨a, len, cap, q, n, D, Pl, hcs, _, hl, hm, hmm, hx, hxl⟩
  · simp only [List.cons.injEq, and_true] at hcs
    subst hcs
    exact ⟨none, 0, 0, [], [], rfl, Nat.le_refl _, RowA.nil_, All2.nil_, by simp⟩
  · simp only [List.cons.injEq, and_true] at hcs
    subst hcs
    simp only [if_true] at hmm
    subst hmm
    rw [hc] at hxl hx
    obtain ⟨d, ps⟩ := x
    simp only [Prod.mk.injEq] at hx
    obtain ⟨rfl, rfl⟩ := hx
    obtain ⟨hw1, hw2⟩ := wt_slice ht hwt
    obtain ⟨xs, hxn, hxs⟩ := choose_list (p := fun i (o : α × β) => W.cells? 0 (a.add (i * k)) k = some (g o.1) ∧ R o.1 o.2) len (fun i hi => by
      obtain ⟨cs', h1, h2⟩ := hxl i (by omega)
      have hmem : D i ∈ (List.range len).map D := List.mem_map.2 ⟨i, List.mem_range.2 hi, rfl⟩
      have hb := bulk_mem hmem
      obtain ⟨o, T, e1, e2⟩ := hel _ _ _ h2 (fun p hp => hlt p (List.mem_append_right _ (List.mem_flatMap.2 ⟨i, List.mem_range.2 (by omega), hp⟩))) (by simp only [Rows.uptoBulk]; omega) (hw2 _ hmem)
      exact ⟨(o, T), by rw [h1, e1], e2⟩)
    have hgl : (cells g (xs.map (·.1))).length = len * k := by rw [cells_length hg]; simp [hxn]
    refine ⟨some a, len, q, xs.map (·.1), xs.map (·.2), rfl, hl, ⟨⟨hgl, fun h0 => ⟨a, rfl, ?_, ?_⟩⟩, by simp [hxn], fun h0 ad e => ?_⟩, ⟨by simp, fun j u v hu hv => ?_⟩, ?_⟩
    · exact mem_row_block (Nat.mul_pos (show 0 < q by omega) hk) (fun x hx => hlt x (List.mem_append_left _ hx))
    · intro j u hu
      have hj : j < (cells g (xs.map (·.1))).length := (List.getElem?_eq_some_iff.1 hu).1
      rw [hgl] at hj
      have hi : j / k < xs.length := by rw [hxn]; exact Nat.div_lt_of_lt_mul (by rw [Nat.mul_comm]; exact hj)
      have ho : xs[j / k]? = some xs[j / k] := List.getElem?_eq_getElem hi
      have hcs := (hxs (j / k) _ ho).1
      have hr : j % k < (g (xs[j / k]).1).length := by rw [hg]; exact Nat.mod_lt _ hk
      have hg' := cells_get hg (xs.map (·.1)) (j / k) (xs[j / k]).1 (by simp [ho]) (j % k) _ (List.getElem?_eq_getElem hr)
      rw [show j / k * k + j % k = j by rw [Nat.mul_comm]; exact Nat.div_add_mod j k, hu] at hg'
      obtain ⟨_, _, hcell⟩ := World.cells?_some hcs
      have hc2 := hcell (j % k) (Nat.mod_lt _ hk)
      rw [add_of_add, show j / k * k + j % k = j by rw [Nat.mul_comm]; exact Nat.div_add_mod j k] at hc2
      rw [hc2, hg']
      exact List.getElem?_eq_getElem hr
    · injection e with e
      subst e
      exact mem_row_block (Nat.mul_pos (show 0 < q by omega) hk) (fun x hx => hlt x (List.mem_append_left _ hx))
    · have hj : j < xs.length := by have := (List.getElem?_eq_some_iff.1 hu).1; simpa using this
      have ho : xs[j]? = some xs[j] := List.getElem?_eq_getElem hj
      simp [ho] at hu hv
      subst hu hv
      exact (hxs j _ ho).2
    · simp only [List.length_map, List.length_range] at hw1 ⊢
      rw [hxn]
      exact Nat.le_trans (Nat.mul_le_mul_right _ (Nat.le_add_right _ _)) hw1

def OpenV (enc : TypeId × Value → H) (W : World) (N : Nat) : Prop := ∀ (fuel : Nat) (cs : List Value) (x : DataW H × List MemPlace), DataW.trod enc Tryz.prog W 0 (fun _ => true) true fuel 25 cs = some x → (∀ p ∈ x.2, p.block < W.heap.size) → Rows.uptoBulk x.1 ≤ N → (x.1.weights Tryz.prog 25).all (· ≤ reachBytes) = true →
  ∃ (v : VC) (T : VT), cs = v.vals ∧ VAt W (fun b => b < W.heap.size) (N + 1) v T ∧ T.size ≤ 140737488351232
set_option maxRecDepth 100000 in
theorem open_v_step (N : Nat) (ih : ∀ M, M < N → OpenV enc W M) : OpenV enc W N := by
  intro fuel cs x h hlt hN hwt
  obtain ⟨ys, n, _, hxe, hlen, hyl, hf⟩ := DataW.trod_struct Tryz.underlying25 h
  have hc : Tryz.prog.cellsOf 25 = 6 := by kernel_rfl
  have hc1 : Tryz.prog.cellsOf 3 = 1 := by kernel_rfl
  have hcL : Tryz.prog.cellsOf 22 = 1 := by kernel_rfl
  have hcF : Tryz.prog.cellsOf 23 = 1 := by kernel_rfl
  have hcs1 : Tryz.prog.cellsOf 9 = 1 := by kernel_rfl
  have hc7 : Tryz.prog.cellsOf 59 = 7 := by kernel_rfl
  rw [hc] at hlen
  replace hyl : ys.length = 6 := hyl
  obtain ⟨y0, y1, y2, y3, y4, y5, rfl⟩ : ∃ a b c d e f, ys = [a, b, c, d, e, f] := by
    rcases ys with _ | ⟨a, _ | ⟨b, _ | ⟨c, _ | ⟨d, _ | ⟨e, _ | ⟨f, _ | _⟩⟩⟩⟩⟩⟩ <;> simp at hyl
    exact ⟨a, b, c, d, e, f, rfl⟩
  obtain ⟨c0, c1, c2, c3, c4, c5, rfl⟩ : ∃ a b c d e f, cs = [a, b, c, d, e, f] := by
    rcases cs with _ | ⟨a, _ | ⟨b, _ | ⟨c, _ | ⟨d, _ | ⟨e, _ | ⟨f, _ | _⟩⟩⟩⟩⟩⟩ <;> simp at hlen
    exact ⟨a, b, c, d, e, f, rfl⟩
  have h0 : DataW.trod enc Tryz.prog W 0 (fun _ => true) true n 3 (([c0, c1, c2, c3, c4, c5].drop 0).take (Tryz.prog.cellsOf 3)) = some y0 := hf 0 _ rfl
  have h1 : DataW.trod enc Tryz.prog W 0 (fun _ => true) true n 3 (([c0, c1, c2, c3, c4, c5].drop 1).take (Tryz.prog.cellsOf 3)) = some y1 := hf 1 _ rfl
  have h2 : DataW.trod enc Tryz.prog W 0 (fun _ => true) true n 3 (([c0, c1, c2, c3, c4, c5].drop 2).take (Tryz.prog.cellsOf 3)) = some y2 := hf 2 _ rfl
  have h3 : DataW.trod enc Tryz.prog W 0 (fun _ => true) true n 9 (([c0, c1, c2, c3, c4, c5].drop 3).take (Tryz.prog.cellsOf 9)) = some y3 := hf 3 _ rfl
  have h4 : DataW.trod enc Tryz.prog W 0 (fun _ => true) true n 22 (([c0, c1, c2, c3, c4, c5].drop 4).take (Tryz.prog.cellsOf 22)) = some y4 := hf 4 _ rfl
  have h5 : DataW.trod enc Tryz.prog W 0 (fun _ => true) true n 23 (([c0, c1, c2, c3, c4, c5].drop 5).take (Tryz.prog.cellsOf 23)) = some y5 := hf 5 _ rfl
  clear hf h
  rw [hc1] at h0 h1 h2
  rw [hcs1] at h3
  rw [hcL] at h4
  rw [hcF] at h5
  obtain ⟨n0, e0, rfl, _⟩ := DataW.trod_int Tryz.underlying3 h0
  obtain ⟨n1, e1, rfl, _⟩ := DataW.trod_int Tryz.underlying3 h1
  obtain ⟨n2, e2, rfl, _⟩ := DataW.trod_int Tryz.underlying3 h2
  obtain ⟨s3, e3, rfl, _⟩ := DataW.trod_string Tryz.underlying9 h3
  simp at e0 e1 e2 e3 h4 h5
  subst e0 e1 e2 e3
  subst hxe
  have hwe := wt_struct Tryz.underlying25 hwt
  have hw4 : (y4.1.weights Tryz.prog 22).all (· ≤ reachBytes) = true := wt_each (j := 4) hwe rfl rfl
  have hw5 : (y5.1.weights Tryz.prog 23).all (· ≤ reachBytes) = true := wt_each (j := 5) hwe rfl rfl
  clear hwe hwt
  simp only [List.map_cons, List.map_nil, List.flatMap_cons, List.flatMap_nil, List.append_nil, List.nil_append, Rows.uptoBulk, Rows.uptoBulkAll] at hN hlt ⊢
  have b5 := bulk_one y5.1
  have b4 := bulk_one y4.1
  obtain ⟨N, rfl⟩ : ∃ M, N = M + 1 := ⟨N - 1, by omega⟩
  obtain ⟨Al, nl, cl, V, L, rfl, hnl, hV, hA, hsL⟩ := open_row (g := VC.vals) (k := 6) vlen (by omega) Tryz.underlying22 hc h4 (fun p hp => hlt p (List.mem_append_left _ hp)) hw4 (R := fun (c : VC) (x : VT) => VAt W (fun b => b < W.heap.size) (N + 1) c x ∧ x.size ≤ 140737488351232) (by
    intro fu cs' y hy hyl hb hwy
    obtain ⟨o, T, e1, e2, e3⟩ := ih N (by omega) fu cs' y hy hyl (by omega) hwy
    exact ⟨o, T, e1, e2, e3⟩)
  obtain ⟨Af, nf, cf, F, L', rfl, hnf, hF, hB, hsF⟩ := open_row (g := FC.vals) (k := 7) flen (by omega) Tryz.underlying23 hc7 h5 (fun p hp => hlt p (List.mem_append_right _ hp)) hw5 (R := fun (c : FC) (x : ByteArray × VT) => (c.n = x.1 ∧ VAt W (fun b => b < W.heap.size) (N + 1) c.v x.2) ∧ x.2.size ≤ 140737488351232) (by
    intro fu cs' y hy hyl hb hwy
    obtain ⟨zs, n', _, hze, hzlen, hzl, hzf⟩ := DataW.trod_struct Tryz.underlying59 hy
    rw [hc7] at hzlen
    replace hzl : zs.length = 2 := hzl
    obtain ⟨z0, z1, rfl⟩ : ∃ a b, zs = [a, b] := by
      rcases zs with _ | ⟨a, _ | ⟨b, _ | _⟩⟩ <;> simp at hzl
      exact ⟨a, b, rfl⟩
    obtain ⟨q0, r, rfl⟩ : ∃ a l, cs' = a :: l := by
      rcases cs' with _ | ⟨a, l⟩
      · simp at hzlen
      · exact ⟨a, l, rfl⟩
    have g0 : DataW.trod enc Tryz.prog W 0 (fun _ => true) true n' 9 (((q0 :: r).drop 0).take (Tryz.prog.cellsOf 9)) = some z0 := hzf 0 _ rfl
    have g1 : DataW.trod enc Tryz.prog W 0 (fun _ => true) true n' 25 (((q0 :: r).drop 1).take (Tryz.prog.cellsOf 25)) = some z1 := hzf 1 _ rfl
    clear hzf hy
    rw [hcs1] at g0
    rw [hc] at g1
    obtain ⟨s, es, rfl, _⟩ := DataW.trod_string Tryz.underlying9 g0
    simp at es
    subst es
    have hrl : r.length = 6 := by rw [List.length_cons] at hzlen; omega
    have hr : (((Value.string s :: r).drop 1).take 6) = r := by rw [List.drop_succ_cons, List.drop_zero, List.take_of_length_le (by omega)]
    rw [hr] at g1
    subst hze
    have hw1 : (z1.1.weights Tryz.prog 25).all (· ≤ reachBytes) = true := wt_each (j := 1) (wt_struct Tryz.underlying59 hwy) rfl rfl
    simp only [List.map_cons, List.map_nil, List.flatMap_cons, List.flatMap_nil, List.append_nil, List.nil_append, Rows.uptoBulk, Rows.uptoBulkAll] at hyl hb ⊢
    obtain ⟨o, T, e1, e2, e3⟩ := ih N (by omega) n' r z1 g1 hyl (by omega) hw1
    exact ⟨⟨s, o⟩, (s, T), by rw [e1]; rfl, ⟨rfl, e2⟩, e3⟩)
  refine ⟨⟨n0, n1, n2, s3, Al, nl, cl, Af, nf, cf⟩, .mk n0 n1 n2 s3 L L', rfl, ⟨⟨rfl, rfl, rfl, rfl, hnl, hnf⟩, ⟨V, hV, hA.1, fun j a b ha hb => (hA.2 j a b ha hb).1⟩, ⟨F, hF, hB.1, fun j a b ha hb => (hB.2 j a b ha hb).1⟩⟩, ?_⟩
  have hbL : Tryz.prog.bytesOf 25 = 88 := by kernel_rfl
  have hbF : Tryz.prog.bytesOf 59 = 104 := by kernel_rfl
  rw [hbL] at hsL
  rw [hbF] at hsF
  have h1 : sizeL L ≤ 140737488351232 := sizeL_le (by simp only [reachBytes] at hsL; omega) fun x hx => by
    obtain ⟨j, hj⟩ := List.getElem?_of_mem hx
    have hl : j < V.length := by rw [hA.1]; exact (List.getElem?_eq_some_iff.1 hj).1
    exact (hA.2 j _ x (List.getElem?_eq_getElem hl) hj).2
  have h2 : sizeF L' ≤ 140737488351232 := sizeF_le (by simp only [reachBytes] at hsF; omega) fun x hx => by
    obtain ⟨j, hj⟩ := List.getElem?_of_mem hx
    have hl : j < F.length := by rw [hB.1]; exact (List.getElem?_eq_some_iff.1 hj).1
    exact (hB.2 j _ x (List.getElem?_eq_getElem hl) hj).2
  simp only [VT.size]
  omega
theorem open_v (N : Nat) : OpenV enc W N := by
  induction N using Nat.strongRecOn with
  | ind N ih => exact open_v_step N ih

set_option maxRecDepth 100000 in
/-- An argument of type api.Value: its six cells, a tree, and the tree's size. -/
theorem open_val {b0 : Nat} {v : Value} {d : DataW H} {p : List MemPlace}
    (hval : Value.okWide Tryz.prog W .any b0 25 v) (h : DataW.Trod enc Tryz.prog W 0 (fun _ => true) true 25 v d p) (hlt : ∀ x ∈ p, x.block < W.heap.size) (hwt : (d.weights Tryz.prog 25).all (· ≤ reachBytes) = true) :
    ∃ (c : VC) (T : VT) (n : Nat), v = .agg #[.int .i64 c.k, .int .i64 c.i, .int .i64 c.s, .string c.t, .slice c.la c.ln c.lc, .slice c.fa c.fn c.fc] ∧ VAt W (fun b => b < W.heap.size) n c T ∧ T.size ≤ 140737488351232 := by
  obtain ⟨cs, rfl, _⟩ := okWide_struct Tryz.underlying25 hval
  obtain ⟨fuel, hf⟩ := h
  obtain ⟨c, T, e1, e2, e3⟩ := open_v (enc := enc) (W := W) (Rows.uptoBulk d) fuel _ _ hf hlt (Nat.le_refl _) hwt
  refine ⟨c, T, _, ?_, e2, e3⟩
  have : cs.toList = c.vals := e1
  obtain ⟨l⟩ := cs
  simp only at this
  subst this
  rfl
end
end Go.Proofs.YtdccckoelnnnoaaGreatDoor

namespace Go.Proofs.YtdccckoelnnnoaaGreatDoor.pathDeletes
open Go.ChangeShapes Go.WideShapes Go.ChangeAt Go.RowKit

theorem pts_cap {H : Type} {enc : TypeId × Value → H} {W : World} {A : Option Addr} {n c : Nat} {d : DataW H} {p : List MemPlace} (h : DataW.Trod enc Tryz.prog W 0 (fun _ => true) true 26 (.slice A n c) d p) : n ≤ c := by
  obtain ⟨fuel, hf⟩ := h
  rcases Go.Deep.open_slice Tryz.underlying26 hf with ⟨hcs, _⟩ | ⟨a, len, cap, m, k, D, Pl, hcs, _, hl, _⟩
  · simp [Value.cells] at hcs
    omega
  · simp [Value.cells] at hcs
    omega

set_option maxRecDepth 100000 in
theorem lifted (os : Os) (started : os.Started) (H : Type) (enc : TypeId × Value → H) :
    ReturnsInHanded {} Tryz.checked os 3 .any (fun w args => (Rows.pathDeletesSpec.pre enc Tryz.prog Tryz.f3 [] false w args ∧ laidMetH Tryz.prog Rows.pathDeletesRow.laid w) ∧ sizedMet enc Tryz.prog Tryz.f3 (OpenSpec.ofChange Rows.pathDeletesSpec) false w args)
      (Rows.pathDeletesSpec.post enc Tryz.prog Tryz.f3 false true false false) := by
  refine handed_and_shaped (C := Tryz.checked) (X := fun w _ => laidMetH Tryz.prog Rows.pathDeletesRow.laid w) (fun _ _ _ hh h => h.of_heap hh) Tryz.own' started (by kernel_rfl) Tryz.func3
    (ChangeSpec.witness_shaped (enc := enc) (C := Tryz.checked) (os := os) (X := fun w _ => laidMetH Tryz.prog Rows.pathDeletesRow.laid w) false (World.laidAll Tryz.prog os Rows.pathDeletesRow.laid) #[.agg #[.int .i64 0, .int .i64 0, .int .i64 0, .string ByteArray.empty, .slice none 0 0, .slice none 0 0], .slice none 0 0] 8 (World.laidAll_os _ _ _) (World.shaped_of_ZipB (by kernel_rfl) (by kernel_rfl)) (by kernel_rfl) (by kernel_rfl) (by kernel_rfl) (by rw [MakeChecks.laidMetH_plain _ _ _ (by kernel_rfl)]; exact laidMet_laidAll _ (by kernel_rfl) (by kernel_rfl))) ?_
  intro W base args ds gs before hval0 hW _ hsz0 hL hsh _
  have hval : ∀ (j : Nat) t v, Tryz.f3.params[j]? = some t → args[j]? = some v → Value.okWide Tryz.prog W .any base t v := hval0
  have hsz : (DataW.weightsEach Tryz.prog (Tryz.f3.params.toList ++ Rows.pathDeletesSpec.plain.varTypes Tryz.prog) (ds ++ gs)).all (· ≤ reachBytes) = true := hsz0
  have hW' := hW
  obtain ⟨p, q, hA0, hV, rfl, hfz, hnd⟩ := hW
  have hA : DataW.TrodAll enc Tryz.prog W 0 (fun _ => true) true Tryz.f3.params.toList args.toList ds p := hA0
  rw [Tryz.params3] at hA hval hsz
  obtain ⟨v0, vs0, d0, ds0, p0, q0, hargs, rfl, rfl, h0, r0⟩ := trodAll_cons hA
  obtain ⟨v1, vs1, d1, ds1, p1, q1, rfl, rfl, rfl, h1, r1⟩ := trodAll_cons r0
  obtain ⟨rfl, rfl, rfl⟩ := trodAll_nil r1
  obtain rfl : args = #[v0, v1] := by cases args; simp_all
  obtain ⟨rfl, rfl⟩ := trodVars_none hV
  have hb0 := hval 0 25 v0 rfl rfl
  have h0k := h0
  have hlt0 : ∀ x ∈ p0, x.block < W.heap.size := fun x hx => hW'.lt x (by simp [hx])
  obtain ⟨c0, T0, n0, rfl, HX0, hz0⟩ := open_val hb0 h0 hlt0 (wt_each (j := 0) hsz rfl rfl)
  have hb1 := hval 1 26 v1 rfl rfl
  have h1k := h1
  have hlt1 : ∀ x ∈ p1, x.block < W.heap.size := fun x hx => hW'.lt x (by simp [hx])
  obtain ⟨A1, n1, c1, X1, rfl, HX1⟩ := open_pts hb1 h1 hlt1
  clear hA0 hval0
  simp only [List.append_nil] at hW'
  refine (lawDelW c0 T0 n0 hz0 HX0 A1 n1 c1 X1 HX1 (pts_cap h1k) (of_std hL hsh)).mono fun e W' ⟨he, hgo⟩ => ?_
  have hg : Below W.heap.size W W' := hgo.below_all (fun _ _ x => x)
  subst he
  exact ⟨_, rfl, post_of_below (pa := (p0 ++ (p1 ++ []))) (pv := []) hW' (fun _ _ _ => (trodAll_cons_mk (shut_bool Tryz.underlying4 _) trodAll_mk0)) (fun sp hsp => (trodAll_cons_mk (Go.WideElems.Trod_stays Tryz.laidOut (by kernel_rfl) (of_decide_eq_true (by kernel_rfl)) h0k (fun x hx => hg.same (hlt0 x hx)) (fun x hx => hsp x (by simp [hx]))) (trodAll_cons_mk (Go.WideElems.Trod_stays Tryz.laidOut (by kernel_rfl) (of_decide_eq_true (by kernel_rfl)) h1k (fun x hx => hg.same (hlt1 x hx)) (fun x hx => hsp x (by simp [hx]))) trodAll_mk0))) (fun _ _ => rfl) (by simp)
    hg (ok_one (by kernel_rfl) rfl (okWide_bool_mk Tryz.underlying4 _))⟩

theorem over : Rows.PathDeletesSaid :=
  OpenClaim.holds_of_wide 3 Tryz.f3 rfl rfl rfl rfl rfl rfl rfl ⟨rfl, rfl, rfl, rfl, rfl⟩ rfl rfl rfl rfl rfl (by kernel_rfl) Tryz.func3 (by kernel_rfl)
    (of_decide_eq_true (by kernel_rfl)) (by unfold Func.isWrapper; first | (rw [if_pos (by decide +kernel)]; kernel_rfl) | (rw [if_neg (by decide +kernel)]; exact ⟨rfl, rfl⟩))
    (fun os started H enc _ => lifted os started H enc)

theorem proved : Rows.PathDeletesCardSaid :=
  Claim7.holds_tied_plain_at .later [] [.data, .data, .data, .sentinel, .sentinel] true (true, "bfdad8f32b6d89e8a05add60834a4672cd129e22f6b729bdf0271c481897a647") true
    over (fun _ h => by cases h) (by kernel_rfl) (fun _ h => by cases h) pathDeletes_row_tie rfl ⟨rfl, rfl⟩ (by kernel_rfl) rfl
    (fun f fn hf hfn => by
      obtain rfl : f = 3 := Option.some.inj ((show Tryz.prog.funcNamed "manifold/manifoldlaw05.PathDeletes" = some 3 by kernel_rfl).symm.trans hf) |>.symm
      obtain rfl : fn = Tryz.f3 := (Option.some.inj (Tryz.func3.symm.trans hfn)).symm
      exact ⟨by kernel_rfl, fun j t ht => by
        rw [Tryz.params3] at ht
        have hm : t ∈ [25, 26] := by simpa using Array.mem_of_getElem? ht
        have hall : ([25, 26].all fun u => !Tryz.prog.wantsStandIn u) = true := by kernel_rfl
        exact (show Tryz.prog.wantsStandIn t = false by simpa using List.all_eq_true.1 hall t hm)⟩)
    (by kernel_rfl)
#print axioms proved
end Go.Proofs.YtdccckoelnnnoaaGreatDoor.pathDeletes
