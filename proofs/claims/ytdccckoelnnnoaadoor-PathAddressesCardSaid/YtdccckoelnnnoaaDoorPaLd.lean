/- Path: the five listed variables and the world's shape; the frame of a law's row; slices of parts opened. (lines of XExLaid, XExStd, XExOps turned to it) -/
import Derived.Test.YtdccckoelnnnoaaDoorRows
import Derived.Test.YtdccckoelnnnoaaDoorKnA
import Derived.ProofKit
import Derived.OpenShut
import Derived.ShutString
import Derived.SizedLaws
import Derived.LaidMore
import Derived.Stop.Joined
import Derived.Stop.LaidErr
import Derived.HandedShaped
import Derived.Lib.LaidTab
import Derived.Lib.SmallJoins
import Derived.Lay
import Derived.Deep.Slices
import Derived.ChangeSlices
import Derived.ChangeArms
namespace Go.Proofs.YtdccckoelnnnoaaDoor
open Go.ChangeShapes Go.WideShapes Go.ChangeAt Go.WideMaps Go.WideElems Go.RowKit

theorem Tryd.own' : ownKnob Tryd.prog.godebug = none := by kernel_rfl
theorem Tryd.laidOut : laidOutB Tryd.prog = true := by kernel_rfl
theorem tPow' : (Tryd.prog.globals[3]?).map (·.type) = some 142 := by kernel_rfl

section
variable {H : Type} {enc : TypeId × Value → H} {P : Program}
theorem post_of_below {f : Func} {s : ChangeSpec} {apart fresh handsOn again : Bool} {W W' : World} {args : Array Value} {v : Value} {ds gs : List (DataW H)} {before pa pv : List MemPlace}
    (hW : DataW.Whole enc P f.params.toList s.vars apart W args.toList ds gs before)
    (hres : ∀ (b : Nat) (sp : Nat → Bool) (hd : Bool), DataW.TrodAll enc P W' b sp hd f.resultTypes.toList (v.resultList f.resultTypes.size) (s.fn H (ds ++ gs)).results [])
    (hargs : ∀ sp : Nat → Bool, (∀ p ∈ before, sp p.block = true) → DataW.TrodAll enc P W' 0 sp true f.params.toList args.toList (s.fn H (ds ++ gs)).args pa)
    (hvars : ∀ sp : Nat → Bool, (∀ p ∈ before, sp p.block = true) → DataW.TrodVars enc P W' sp s.vars (s.fn H (ds ++ gs)).vars pv)
    (hps : before = pa ++ pv) (hb : Below W.heap.size W W')
    (hok : ∀ (j : Nat) (t : TypeId) (r : Value), f.resultTypes[j]? = some t → (v.resultList f.resultTypes.size)[j]? = some r → Value.okWide P W' .any 0 t r) :
    s.post enc P f apart fresh handsOn again W args v W' := by
  have hlt : ∀ p ∈ before, p.block < W.heap.size := fun p hp => hW.lt p hp
  have hold : ∀ p ∈ before, (fun b => decide (b < W.heap.size)) p.block = true := fun p hp => by simpa using hlt p hp
  refine ⟨ds, gs, before, [], pa, pv, hW, hres _ _ _, hargs _ hold, hvars _ hold, World.keptBut_mono (fun p hp => ⟨hp, ?_⟩) (hb.frame (· ∈ before)), fun _ => ?_⟩
  · rw [hps, List.mem_append] at hp
    exact Or.inr hp
  · obtain ⟨_, _, _, _, _, hz, hn⟩ := hW
    refine ⟨hok, _, _, ([] ++ pa) ++ pv, ⟨[] ++ pa, pv, trodAll_append (hargs _ (fun _ _ => rfl)) (hres _ _ _), hvars _ (fun _ _ => rfl), rfl, ?_, ?_⟩, ?_⟩
    · intro b off hp
      have hin : MemPlace.cell b off ∈ before := by rw [hps]; simpa using hp
      rw [hb.frozen (hlt _ hin)]
      exact hz b off hin
    · intro ha
      have := hn ha
      rw [hps] at this
      simpa using this
    · intro p hp _
      rw [hps]
      simpa using hp
end
theorem starErr : "*" ++ "errors.errorString" = "*errors.errorString" := by decide
theorem rowErr : ∀ u, Tryd.prog.typeName? 3 u = some "*errors.errorString" → u = 138 := fun u h =>
  typeName_ptr_named (nm := "errors.errorString") (by rw [starErr]; kernel_rfl) (by kernel_rfl) (by decide) u (by rw [starErr]; exact h)
theorem var_cell0 {W : World} {n : String} {g : Nat} {v : Value} (hg : Tryd.prog.globalNamed n = some g) (h : W.var? Tryd.prog n = some #[v]) : W.cell? ⟨g, 0, none⟩ = some v := World.var?_cell hg h 0
theorem of_std {W : World} (h : laidMetH Tryd.prog Rows.pathCoversRow.laid W) (hsh : W.ShapedOpen Tryd.prog) : Std W := by
  rw [MakeChecks.laidMetH_plain _ _ _ (by kernel_rfl)] at h
  have hT : CalTab W := by
    obtain ⟨ps, ⟨g0, t0, cs0, f0, p0, q0, hg0, ht0, hv0, hd0, ⟨g1, t1, cs1, f1, p1, q1, hg1, ht1, hv1, hd1, ⟨g2, t2, cs2, f2, p2, q2, hg2, ht2, hv2, hd2, _, _⟩, _⟩, _⟩, _⟩ := h
    obtain rfl := Option.some.inj (gPow'.symm.trans hg2)
    obtain rfl := Option.some.inj (tPow'.symm.trans ht2)
    unfold CalTab Lib.TabIs
    rw [hv2, ← Lib.cells_of_tab Tryd.underlying142 Tryd.underlying121 (by kernel_rfl) (by kernel_rfl) (zs := Lib.pow10Tab) hd2]
  have h3 := h.tail.tail.tail
  obtain ⟨a0, s0, hv0, _⟩ := laid_sentinel (g := 2) h3 (by kernel_rfl) (by kernel_rfl) Tryd.underlying94 rowErr Tryd.underlying138 Tryd.underlying140 rfl rfl Tryd.underlying9 (by kernel_rfl) (by kernel_rfl)
  obtain ⟨a1, s1, hv1, _⟩ := laid_sentinel (g := 1) h3.tail (by kernel_rfl) (by kernel_rfl) Tryd.underlying94 rowErr Tryd.underlying138 Tryd.underlying140 rfl rfl Tryd.underlying9 (by kernel_rfl) (by kernel_rfl)
  exact ⟨hT, Tryd.laysM145.s1_3 W hsh, ⟨_, _, var_cell0 (by kernel_rfl) hv1⟩, ⟨_, _, var_cell0 (by kernel_rfl) hv0⟩⟩

theorem handed_and_shaped {H : Type} {enc : TypeId × Value → H} {a : Assume} {C : Checked} {os : Os} {f : FuncId} {fn : Func} {s : ChangeSpec} {conds : List PathCond} {apart fresh handsOn again : Bool} {X : World → Array Value → Prop}
    (hX : ∀ (w w' : World) (args : Array Value), w.heap = w'.heap → X w args → X w' args)
    (own : ownKnob C.prog.godebug = none) (started : os.Started) (noInit : C.prog.inits.idxOf? f = none) (hfn : C.prog.funcs[f]? = some fn)
    (witness : ∃ (w : World) (tape : Tape) (i : Input), w.os = os ∧ (w.forCall tape i).Shaped C.prog ∧ i.vars = [] ∧ Input.okWide C.prog (w.forCall tape i) .any w.heap.size f i ∧
      ((s.pre enc C.prog fn conds apart (w.forCall tape i).memory i.args ∧ X (w.forCall tape i).memory i.args) ∧ sizedMet enc C.prog fn (OpenSpec.ofChange s) apart (w.forCall tape i).memory i.args) ∧ a.holds C.prog (lone (Frame.enter C.prog f i.args .normal) [] (w.forCall tape i)))
    (contract : ∀ (W : World) (base : Nat) (args : Array Value) (ds gs : List (DataW H)) (before : List MemPlace),
      (∀ (j : Nat) t v, fn.params[j]? = some t → args[j]? = some v → Value.okWide C.prog W .any base t v) →
      DataW.Whole enc C.prog fn.params.toList s.vars apart W args.toList ds gs before →
      conds.all (PathCond.test C.prog ⟨fn.params.toList, ds, s.plain.varTypes C.prog, gs⟩) = true →
      (DataW.weightsEach C.prog (fn.params.toList ++ s.plain.varTypes C.prog) (ds ++ gs)).all (· ≤ reachBytes) = true → X W args → W.ShapedOpen C.prog →
      a.holds C.prog (lone (Frame.enter C.prog f args .normal) [] W) →
      Calls C.prog f args W fun e W' => ∃ v, e = .returned v ∧ s.post enc C.prog fn apart fresh handsOn again W args v W') :
    ReturnsInHanded a C os f .any (fun w args => (s.pre enc C.prog fn conds apart w args ∧ X w args) ∧ sizedMet enc C.prog fn (OpenSpec.ofChange s) apart w args) (s.post enc C.prog fn apart fresh handsOn again) := by
  refine returnsInHanded_of_calls own started noInit witness ?_
  intro w tape i _ hsh _ hok hpre hholds
  obtain ⟨_, _, _, fn', hfn', _, _, _, _, hval⟩ := hok
  have e : fn' = fn := Option.some.inj (hfn'.symm.trans hfn)
  subst e
  obtain ⟨⟨⟨ds, gs, before, hw, hc⟩, hx⟩, hz⟩ := hpre
  have hw' := DataW.Whole.of_heap (w' := w.forCall tape i) (by rfl) hw
  refine (contract (w.forCall tape i) w.heap.size i.args ds gs before hval hw' hc (hz.weights hw) (hX _ _ _ (by rfl) hx) hsh hholds).mono fun e W' ⟨v, he, hp⟩ => ?_
  subst he
  exact ChangeSpec.post_blind hp

section
variable {W : World}
theorem mem_row_block {a : Addr} {n : Nat} (hn : 0 < n) (hlt : ∀ x ∈ MemPlace.row a n, x.block < W.heap.size) : a.block < W.heap.size := by
  exact hlt (MemPlace.cell a.block (a.off + 0)) (List.mem_map.2 ⟨0, List.mem_range.2 hn, rfl⟩)

end
theorem choose_list {α : Type} {p : Nat → α → Prop} : ∀ n : Nat, (∀ i, i < n → ∃ a, p i a) → ∃ l : List α, l.length = n ∧ ∀ i a, l[i]? = some a → p i a
  | 0, _ => ⟨[], rfl, fun i a h => by simp at h⟩
  | n + 1, h => by
    obtain ⟨l, hl, hp⟩ := choose_list n (fun i hi => h i (by omega))
    obtain ⟨a, ha⟩ := h n (by omega)
    refine ⟨l ++ [a], by simp [hl], fun i x hx => ?_⟩
    rcases Nat.lt_or_ge i n with hi | hi
    · rw [List.getElem?_append_left (by omega)] at hx
      exact hp i x hx
    · have hi2 : i < (l ++ [a]).length := (List.getElem?_eq_some_iff.1 hx).1
      simp only [List.length_append, List.length_singleton] at hi2
      obtain rfl : i = n := by omega
      rw [← hl] at hx
      simp at hx
      rw [← hx]
      exact ha

section
variable {H : Type} {enc : TypeId × Value → H} {W : World}
set_option maxRecDepth 100000 in
theorem open_pt {base : Nat} {spare : Nat → Bool} {held : Bool} {fuel : Nat} {cs : List Value} {x : DataW H × List MemPlace} (h : DataW.trod enc Tryd.prog W base spare held fuel 44 cs = some x) : ∃ o : Pt, cs = o.vals := by
  obtain ⟨ys, n, _, _, hlen, hyl, hf⟩ := DataW.trod_struct Tryd.underlying44 h
  have hc : Tryd.prog.cellsOf 44 = 3 := by kernel_rfl
  have hc1 : Tryd.prog.cellsOf 3 = 1 := by kernel_rfl
  rw [hc] at hlen
  replace hyl : ys.length = 3 := hyl
  obtain ⟨y0, y1, y2, rfl⟩ : ∃ a b c, ys = [a, b, c] := by
    rcases ys with _ | ⟨a, _ | ⟨b, _ | ⟨c, _ | _⟩⟩⟩ <;> simp at hyl
    exact ⟨a, b, c, rfl⟩
  obtain ⟨c0, c1, c2, rfl⟩ : ∃ a b c, cs = [a, b, c] := by
    rcases cs with _ | ⟨a, _ | ⟨b, _ | ⟨c, _ | _⟩⟩⟩ <;> simp at hlen
    exact ⟨a, b, c, rfl⟩
  have h0 : DataW.trod enc Tryd.prog W base spare held n 3 (([c0, c1, c2].drop 0).take (Tryd.prog.cellsOf 3)) = some y0 := hf 0 _ rfl
  have h1 : DataW.trod enc Tryd.prog W base spare held n 3 (([c0, c1, c2].drop 1).take (Tryd.prog.cellsOf 3)) = some y1 := hf 1 _ rfl
  have h2 : DataW.trod enc Tryd.prog W base spare held n 9 (([c0, c1, c2].drop 2).take (Tryd.prog.cellsOf 9)) = some y2 := hf 2 _ rfl
  rw [hc1] at h0 h1
  rw [show Tryd.prog.cellsOf 9 = 1 by kernel_rfl] at h2
  obtain ⟨n0, e0, _, w0⟩ := DataW.trod_int Tryd.underlying3 h0
  obtain ⟨n1, e1, _, w1⟩ := DataW.trod_int Tryd.underlying3 h1
  obtain ⟨s2, e2, _⟩ := DataW.trod_string Tryd.underlying9 h2
  simp at e0 e1 e2
  exact ⟨⟨n0, n1, s2⟩, by simp [Pt.vals, e0, e1, e2]⟩

set_option maxRecDepth 100000 in
theorem open_pts {b0 : Nat} {v : Value} {d : DataW H} {p : List MemPlace}
    (hval : Value.okWide Tryd.prog W .any b0 26 v) (h : DataW.Trod enc Tryd.prog W 0 (fun _ => true) true 26 v d p) (hlt : ∀ x ∈ p, x.block < W.heap.size) :
    ∃ A n c xs, v = .slice A n c ∧ Pts W A n xs := by
  obtain ⟨a0, len0, cap0, rfl⟩ := okWide_slice Tryd.underlying26 hval
  obtain ⟨fuel, hf⟩ := h
  rcases Go.Deep.open_slice Tryd.underlying26 hf with ⟨hcs, hx⟩ | ⟨a, len, cap, m, n, D, Pl, hcs, _, hl, hm, hmm, hx, hel⟩
  · simp [Value.cells] at hcs
    obtain ⟨rfl, rfl, rfl⟩ := hcs
    exact ⟨none, 0, 0, [], rfl, Pts.nil_⟩
  · simp [Value.cells] at hcs
    obtain ⟨rfl, rfl, rfl⟩ := hcs
    simp only [if_true] at hmm
    subst hmm
    have hc : Tryd.prog.cellsOf 44 = 3 := by kernel_rfl
    rw [hc] at hel hx
    simp only [Prod.mk.injEq] at hx
    obtain ⟨rfl, rfl⟩ := hx
    obtain ⟨xs, hxl, hxs⟩ := choose_list (p := fun i (o : Pt) => W.cells? 0 (a.add (i * 3)) 3 = some o.vals) len0 (fun i hi => by
      obtain ⟨cs', h1, h2⟩ := hel i (by omega)
      obtain ⟨o, ho⟩ := open_pt h2
      exact ⟨o, by rw [h1, ho]⟩)
    refine ⟨some a, len0, m, xs, rfl, ⟨⟨by rw [ptVals_length, hxl], fun h0 => ⟨a, rfl, ?_, ?_⟩⟩, hxl⟩⟩
    · exact mem_row_block (show 0 < m * 3 by omega) (fun x hx => hlt x (List.mem_append_left _ hx))
    · intro j u hu
      have hj : j < (ptVals xs).length := (List.getElem?_eq_some_iff.1 hu).1
      rw [ptVals_length] at hj
      have hi : j / 3 < xs.length := by omega
      have ho : xs[j / 3]? = some xs[j / 3] := List.getElem?_eq_getElem hi
      have hcs := hxs (j / 3) _ ho
      have hr : j % 3 < (xs[j / 3]).vals.length := by simp only [Pt.vals, List.length_cons, List.length_nil]; omega
      have hg := ptVals_get xs (j / 3) _ ho (j % 3) _ (List.getElem?_eq_getElem hr)
      rw [show j / 3 * 3 + j % 3 = j by omega, hu] at hg
      obtain ⟨_, _, hcell⟩ := World.cells?_some hcs
      have hc2 := hcell (j % 3) (by omega)
      rw [add_of_add, show j / 3 * 3 + j % 3 = j by omega] at hc2
      rw [hc2, hg]
      exact List.getElem?_eq_getElem hr
end

end Go.Proofs.YtdccckoelnnnoaaDoor
