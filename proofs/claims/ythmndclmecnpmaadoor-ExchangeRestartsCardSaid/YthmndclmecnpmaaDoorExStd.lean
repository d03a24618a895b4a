/- The five listed variables and the world's shape: what they give the walks; the wrap that hands both on. -/
import Derived.Test.YthmndclmecnpmaaDoorDecB
import Derived.Test.YthmndclmecnpmaaDoorExLaid
import Derived.Stop.LaidErr
import Derived.HandedShaped
import Derived.Shelf.Vars
namespace Go.Proofs.YthmndclmecnpmaaDoor
open Go.ChangeShapes Go.WideShapes Go.ChangeAt Go.WideMaps Go.WideElems Go.RowKit

theorem starErr : "*" ++ "errors.errorString" = "*errors.errorString" := by decide
theorem rowErr : ∀ u, Tryd.prog.typeName? 3 u = some "*errors.errorString" → u = 167 := fun u h =>
  typeName_ptr_named (nm := "errors.errorString") (by rw [starErr]; kernel_rfl) (by kernel_rfl) (by decide) u (by rw [starErr]; exact h)
theorem var_cell0 {W : World} {n : String} {g : Nat} {v : Value} (hg : Tryd.prog.globalNamed n = some g) (h : W.var? Tryd.prog n = some #[v]) : W.cell? ⟨g, 0, none⟩ = some v := World.var?_cell hg h 0
theorem of_std {W : World} (h : laidMetH Tryd.prog Rows.exchangePacketsRow.laid W) (hsh : W.ShapedOpen Tryd.prog) : Std W := by
  rw [MakeChecks.laidMetH_plain _ _ _ (by kernel_rfl)] at h
  have hT : CalTab W := by
    obtain ⟨ps, ⟨g0, t0, cs0, f0, p0, q0, hg0, ht0, hv0, hd0, ⟨g1, t1, cs1, f1, p1, q1, hg1, ht1, hv1, hd1, ⟨g2, t2, cs2, f2, p2, q2, hg2, ht2, hv2, hd2, _, _⟩, _⟩, _⟩, _⟩ := h
    obtain rfl := Option.some.inj (gPow'.symm.trans hg2)
    obtain rfl := Option.some.inj (tPow'.symm.trans ht2)
    unfold CalTab Lib.TabIs
    rw [hv2, ← Lib.cells_of_tab Tryd.underlying158 Tryd.underlying143 (by kernel_rfl) (by kernel_rfl) (zs := Lib.pow10Tab) hd2]
  have h3 := h.tail.tail.tail
  obtain ⟨a0, s0, hv0, _⟩ := laid_sentinel (g := 2) h3 (by kernel_rfl) (by kernel_rfl) Tryd.underlying101 rowErr Tryd.underlying167 Tryd.underlying169 rfl rfl Tryd.underlying9 (by kernel_rfl) (by kernel_rfl)
  obtain ⟨a1, s1, hv1, _⟩ := laid_sentinel (g := 1) h3.tail (by kernel_rfl) (by kernel_rfl) Tryd.underlying101 rowErr Tryd.underlying167 Tryd.underlying169 rfl rfl Tryd.underlying9 (by kernel_rfl) (by kernel_rfl)
  exact ⟨hT, Tryd.laysM145.s1_3 W hsh, ⟨_, _, var_cell0 (by kernel_rfl) hv1⟩, ⟨_, _, var_cell0 (by kernel_rfl) hv0⟩⟩

theorem handed_and_shaped {H : Type} {enc : TypeId × Value → H} {a : Assume} {C : Checked} {os : Os} {f : FuncId} {fn : Func} {s : ChangeSpec} {conds : List PathCond} {apart fresh handsOn again : Bool} {X : World → Array Value → Prop}
    (hX : ∀ (w w' : World) (args : Array Value), w.heap = w'.heap → X w args → X w' args)
    (own : ownKnob C.prog.godebug = none) (started : os.Started) (noInit : C.prog.inits.idxOf? f = none) (hfn : C.prog.funcs[f]? = some fn)
    (witness : ∃ (w : World) (tape : Tape) (i : Input), w.os = os ∧ (w.forCall tape i).Shaped C.prog ∧ i.vars = [] ∧ Input.okWide C.prog (w.forCall tape i) .any w.heap.size f i ∧
      ((s.pre enc C.prog fn conds apart (w.forCall tape i).memory i.args ∧ X (w.forCall tape i).memory i.args) ∧ sizedMet enc C.prog fn (OpenSpec.ofChange s) apart (w.forCall tape i).memory i.args) ∧ a.holds C.prog (lone (Frame.enter C.prog f i.args .normal) [] (w.forCall tape i)))
    (contract : ∀ (W : World) (base : Nat) (args : Array Value) (ds gs : List (DataW H)) (before : List MemPlace),
      (∀ (j : Nat) t v, fn.params[j]? = some t → args[j]? = some v → Value.okWide C.prog W .any base t v) →
      DataW.Whole enc C.prog fn.params.toList s.vars apart W args.toList ds gs before →
      conds.all (PathCond.test C.prog ⟨fn.params.toList, ds, s.plain.varTypes C.prog, gs⟩) = true →
      (DataW.weightsEach C.prog (fn.params.toList ++ s.plain.varTypes C.prog) (ds ++ gs)).all (· ≤ reachBytes) = true → X W args → W.ShapedOpen C.prog →
      a.holds C.prog (lone (Frame.enter C.prog f args .normal) [] W) →
      Calls C.prog f args W fun e W' => ∃ v, e = .returned v ∧ s.post enc C.prog fn apart fresh handsOn again W args v W') :
    ReturnsInHanded a C os f .any (fun w args => (s.pre enc C.prog fn conds apart w args ∧ X w args) ∧ sizedMet enc C.prog fn (OpenSpec.ofChange s) apart w args) (s.post enc C.prog fn apart fresh handsOn again) := by
  refine returnsInHanded_of_calls own started noInit witness ?_
  intro w tape i _ hsh _ hok hpre hholds
  obtain ⟨_, _, _, fn', hfn', _, _, _, _, hval⟩ := hok
  have e : fn' = fn := Option.some.inj (hfn'.symm.trans hfn)
  subst e
  obtain ⟨⟨⟨ds, gs, before, hw, hc⟩, hx⟩, hz⟩ := hpre
  have hw' := DataW.Whole.of_heap (w' := w.forCall tape i) (by rfl) hw
  refine (contract (w.forCall tape i) w.heap.size i.args ds gs before hval hw' hc (hz.weights hw) (hX _ _ _ (by rfl) hx) hsh hholds).mono fun e W' ⟨v, he, hp⟩ => ?_
  subst he
  exact ChangeSpec.post_blind hp

section
variable {H : Type} {enc : TypeId × Value → H} {W : World} {base b0 : Nat} {sp : Nat → Bool} {held : Bool} {v : Value} {d : DataW H} {p : List MemPlace}
set_option maxRecDepth 100000 in
theorem open_packet (hv : Value.okWide Tryd.prog W .any b0 49 v) (h : DataW.Trod enc Tryd.prog W base sp held 49 v d p) :
    ∃ x : Pkt, v = .agg #[.int .i64 x.kind, .string x.name, .int .i64 x.num, .string x.text] ∧ (-9223372036854775808 ≤ x.num ∧ x.num ≤ 9223372036854775807) := by
  obtain ⟨v0, v1, v2, v3, y0, y1, y2, y3, n, rfl, rfl, rfl, t0, t1, t2, t3⟩ := Joins.open_agg4 Tryd.underlying49 (by kernel_rfl) (by kernel_rfl) hv h
  obtain ⟨n0, e0, _, _⟩ := DataW.trod_int Tryd.underlying3 t0
  obtain ⟨s1, e1, _⟩ := DataW.trod_string Tryd.underlying9 t1
  obtain ⟨n2, e2, _, w2⟩ := DataW.trod_int Tryd.underlying3 t2
  obtain ⟨s3, e3, _⟩ := DataW.trod_string Tryd.underlying9 t3
  simp at e0 e1 e2 e3
  exact ⟨⟨n0, s1, n2, s3⟩, by rw [e0, e1, e2, e3], bounds_i64 w2⟩
end
end Go.Proofs.YthmndclmecnpmaaDoor
