/- Proved: for any script and any at most 80 calls of methods, every call returns what the definition says (the statement NetworkRunsSaid); no condition. -/
import Derived.Test.YtbfkmdcjamillaaLawRun
import Derived.Test.YtbfkmdcjamillaaFrame
import Derived.Test.YtbfkmdcjamillaaOps
import Derived.Carry
namespace Go.Proofs.Ytbfkmdcjamillaa.networkRuns
open Go.ChangeShapes Go.WideShapes Go.ChangeAt Go.RowKit
open Go.ChangeMaps (open_string shut_string)

set_option maxRecDepth 100000 in
theorem lifted (os : Os) (started : os.Started) (H : Type) (enc : TypeId × Value → H) :
    ReturnsInHanded {} Try.checked os 9 .any (Rows.networkRunsSpec.pre6 enc Try.prog Try.f9 Rows.networkRunsRow.domain false) (Rows.networkRunsSpec.post enc Try.prog Try.f9 false true false false) := by
  refine returnsInHanded_of_change_sized (C := Try.checked) Try.own' started (by kernel_rfl) Try.func9
    (ChangeSpec.witness6 (enc := enc) (C := Try.checked) false ⟨#[], #[.slice none 0 0, .slice none 0 0], []⟩ 8 (by kernel_rfl) (by kernel_rfl) (by kernel_rfl) (by kernel_rfl)) ?_
  intro W base args ds gs before hval0 hW hcnd0 hsz0 hholds
  have hval : ∀ (j : Nat) t v, Try.f9.params[j]? = some t → args[j]? = some v → Value.okWide Try.prog W .any base t v := hval0
  have hsz : (DataW.weightsEach Try.prog (Try.f9.params.toList ++ Rows.networkRunsSpec.plain.varTypes Try.prog) (ds ++ gs)).all (· ≤ reachBytes) = true := hsz0
  have hW' := hW
  obtain ⟨p, q, hA0, hV, rfl, hfz, hnd⟩ := hW
  have hA : DataW.TrodAll enc Try.prog W 0 (fun _ => true) true Try.f9.params.toList args.toList ds p := hA0
  rw [Try.params9] at hA hval hsz
  obtain ⟨v0, vs0, d0, ds0, p0, q0, hargs, rfl, rfl, h0, r0⟩ := trodAll_cons hA
  obtain ⟨v1, vs1, d1, ds1, p1, q1, rfl, rfl, rfl, h1, r1⟩ := trodAll_cons r0
  obtain ⟨rfl, rfl, rfl⟩ := trodAll_nil r1
  obtain rfl : args = #[v0, v1] := by cases args; simp_all
  obtain ⟨rfl, rfl⟩ := trodVars_none hV
  have hb0 := hval 0 26 v0 rfl rfl
  have h0k := h0
  have hlt0 : ∀ x ∈ p0, x.block < W.heap.size := fun x hx => hW'.lt x (by simp [hx])
  have hs0 : ∀ el sp, d0 = .slice el sp → el.length ≤ reachBytes := by
    rintro el sp rfl
    have := sized_slice hsz (j := 0) (t := 26) rfl rfl Try.underlying26
    have hb : Try.prog.bytesOf 5 = 1 := by kernel_rfl
    rw [hb] at this
    omega
  obtain ⟨A0, n0, c0, X0, rfl, HX0⟩ := open_bytes Try.underlying26 Try.underlying5 (by kernel_rfl) hb0 h0 hlt0 hs0
  have hb1 := hval 1 27 v1 rfl rfl
  have h1k := h1
  have hlt1 : ∀ x ∈ p1, x.block < W.heap.size := fun x hx => hW'.lt x (by simp [hx])
  have hs1 : ∀ el sp, d1 = .slice el sp → el.length ≤ reachBytes := by
    rintro el sp rfl
    have := sized_slice hsz (j := 1) (t := 27) rfl rfl Try.underlying27
    have hb : Try.prog.bytesOf 33 = 4 := by kernel_rfl
    rw [hb] at this
    omega
  obtain ⟨A1, n1, c1, X1, rfl, HX1, HN1⟩ := open_ops hb1 h1 hlt1 hs1
  clear hA0 hval0
  simp only [List.append_nil] at hW'
  refine (lawRun W A0 n0 c0 X0 HX0 A1 n1 c1 X1 HX1 HN1).mono fun e W' ⟨he, hg⟩ => ?_
  subst he
  exact ⟨_, rfl, post_of_below (pa := (p0 ++ (p1 ++ []))) (pv := []) hW' (fun _ _ _ => (trodAll_cons_mk (shut_bool Try.underlying4 _) trodAll_mk0)) (fun sp hsp => (trodAll_cons_mk (Go.WideElems.Trod_stays Try.laidOut (by kernel_rfl) (of_decide_eq_true (by kernel_rfl)) h0k (fun x hx => hg.same (hlt0 x hx)) (fun x hx => hsp x (by simp [hx]))) (trodAll_cons_mk (Go.WideElems.Trod_stays Try.laidOut (by kernel_rfl) (of_decide_eq_true (by kernel_rfl)) h1k (fun x hx => hg.same (hlt1 x hx)) (fun x hx => hsp x (by simp [hx]))) trodAll_mk0))) (fun _ _ => rfl) (by simp)
    hg (ok_one (by kernel_rfl) rfl (okWide_bool_mk Try.underlying4 _))⟩

theorem over : Rows.networkRunsRow.holds Try.pinned (OpenSpec.ofChange Rows.networkRunsSpec) :=
  OpenClaim.holds_of_wide 9 Try.f9 rfl rfl rfl rfl rfl rfl rfl ⟨rfl, rfl, rfl, rfl, rfl⟩ rfl rfl rfl rfl rfl (by kernel_rfl) Try.func9 (by kernel_rfl)
    (of_decide_eq_true (by kernel_rfl)) (by unfold Func.isWrapper; first | (rw [if_pos (by decide +kernel)]; kernel_rfl) | (rw [if_neg (by decide +kernel)]; exact ⟨rfl, rfl⟩))
    (fun os started H enc _ => lifted os started H enc)

theorem proved : Rows.NetworkRunsSaid :=
  over
#print axioms proved
end Go.Proofs.Ytbfkmdcjamillaa.networkRuns
