/- Proved: a clone behaves like the network, and is independent, after any at most 40 calls and before any at most 20 further ones (the statement NetworkClonesSaid); no condition. -/
import Derived.Test.YtbfkmdcjamillaaLawCln
import Derived.Test.YtbfkmdcjamillaaFrame
import Derived.Test.YtbfkmdcjamillaaOps
import Derived.Carry
namespace Go.Proofs.Ytbfkmdcjamillaa.networkClones
open Go.ChangeShapes Go.WideShapes Go.ChangeAt Go.RowKit
open Go.ChangeMaps (open_string shut_string)

set_option maxRecDepth 100000 in
theorem lifted (os : Os) (started : os.Started) (H : Type) (enc : TypeId × Value → H) :
    ReturnsInHanded {} Try.checked os 11 .any (Rows.networkClonesSpec.pre6 enc Try.prog Try.f11 Rows.networkClonesRow.domain false) (Rows.networkClonesSpec.post enc Try.prog Try.f11 false true false false) := by
  refine returnsInHanded_of_change_sized (C := Try.checked) Try.own' started (by kernel_rfl) Try.func11
    (ChangeSpec.witness6 (enc := enc) (C := Try.checked) false ⟨#[], #[.slice none 0 0, .slice none 0 0, .slice none 0 0], []⟩ 8 (by kernel_rfl) (by kernel_rfl) (by kernel_rfl) (by kernel_rfl)) ?_
  intro W base args ds gs before hval0 hW hcnd0 hsz0 hholds
  have hval : ∀ (j : Nat) t v, Try.f11.params[j]? = some t → args[j]? = some v → Value.okWide Try.prog W .any base t v := hval0
  have hsz : (DataW.weightsEach Try.prog (Try.f11.params.toList ++ Rows.networkClonesSpec.plain.varTypes Try.prog) (ds ++ gs)).all (· ≤ reachBytes) = true := hsz0
  have hW' := hW
  obtain ⟨p, q, hA0, hV, rfl, hfz, hnd⟩ := hW
  have hA : DataW.TrodAll enc Try.prog W 0 (fun _ => true) true Try.f11.params.toList args.toList ds p := hA0
  rw [Try.params11] at hA hval hsz
  obtain ⟨v0, vs0, d0, ds0, p0, q0, hargs, rfl, rfl, h0, r0⟩ := trodAll_cons hA
  obtain ⟨v1, vs1, d1, ds1, p1, q1, rfl, rfl, rfl, h1, r1⟩ := trodAll_cons r0
  obtain ⟨v2, vs2, d2, ds2, p2, q2, rfl, rfl, rfl, h2, r2⟩ := trodAll_cons r1
  obtain ⟨rfl, rfl, rfl⟩ := trodAll_nil r2
  obtain rfl : args = #[v0, v1, v2] := by cases args; simp_all
  obtain ⟨rfl, rfl⟩ := trodVars_none hV
  have hb0 := hval 0 26 v0 rfl rfl
  have h0k := h0
  have hlt0 : ∀ x ∈ p0, x.block < W.heap.size := fun x hx => hW'.lt x (by simp [hx])
  have hs0 : ∀ el sp, d0 = .slice el sp → el.length ≤ reachBytes := by
    rintro el sp rfl
    have := sized_slice hsz (j := 0) (t := 26) rfl rfl Try.underlying26
    have hb : Try.prog.bytesOf 5 = 1 := by kernel_rfl
    rw [hb] at this
    omega
  obtain ⟨A0, n0, c0, X0, rfl, HX0⟩ := open_bytes Try.underlying26 Try.underlying5 (by kernel_rfl) hb0 h0 hlt0 hs0
  have hb1 := hval 1 27 v1 rfl rfl
  have h1k := h1
  have hlt1 : ∀ x ∈ p1, x.block < W.heap.size := fun x hx => hW'.lt x (by simp [hx])
  have hs1 : ∀ el sp, d1 = .slice el sp → el.length ≤ reachBytes := by
    rintro el sp rfl
    have := sized_slice hsz (j := 1) (t := 27) rfl rfl Try.underlying27
    have hb : Try.prog.bytesOf 33 = 4 := by kernel_rfl
    rw [hb] at this
    omega
  obtain ⟨A1, n1, c1, X1, rfl, HX1, HN1⟩ := open_ops hb1 h1 hlt1 hs1
  have hb2 := hval 2 27 v2 rfl rfl
  have h2k := h2
  have hlt2 : ∀ x ∈ p2, x.block < W.heap.size := fun x hx => hW'.lt x (by simp [hx])
  have hs2 : ∀ el sp, d2 = .slice el sp → el.length ≤ reachBytes := by
    rintro el sp rfl
    have := sized_slice hsz (j := 2) (t := 27) rfl rfl Try.underlying27
    have hb : Try.prog.bytesOf 33 = 4 := by kernel_rfl
    rw [hb] at this
    omega
  obtain ⟨A2, n2, c2, X2, rfl, HX2, HN2⟩ := open_ops hb2 h2 hlt2 hs2
  clear hA0 hval0
  simp only [List.append_nil] at hW'
  refine (lawCln W A0 n0 c0 X0 HX0 A1 n1 c1 X1 HX1 HN1 A2 n2 c2 X2 HX2 HN2).mono fun e W' ⟨he, hg⟩ => ?_
  subst he
  exact ⟨_, rfl, post_of_below (pa := (p0 ++ (p1 ++ (p2 ++ [])))) (pv := []) hW' (fun _ _ _ => (trodAll_cons_mk (shut_bool Try.underlying4 _) trodAll_mk0)) (fun sp hsp => (trodAll_cons_mk (Go.WideElems.Trod_stays Try.laidOut (by kernel_rfl) (of_decide_eq_true (by kernel_rfl)) h0k (fun x hx => hg.same (hlt0 x hx)) (fun x hx => hsp x (by simp [hx]))) (trodAll_cons_mk (Go.WideElems.Trod_stays Try.laidOut (by kernel_rfl) (of_decide_eq_true (by kernel_rfl)) h1k (fun x hx => hg.same (hlt1 x hx)) (fun x hx => hsp x (by simp [hx]))) (trodAll_cons_mk (Go.WideElems.Trod_stays Try.laidOut (by kernel_rfl) (of_decide_eq_true (by kernel_rfl)) h2k (fun x hx => hg.same (hlt2 x hx)) (fun x hx => hsp x (by simp [hx]))) trodAll_mk0)))) (fun _ _ => rfl) (by simp)
    hg (ok_one (by kernel_rfl) rfl (okWide_bool_mk Try.underlying4 _))⟩

theorem over : Rows.networkClonesRow.holds Try.pinned (OpenSpec.ofChange Rows.networkClonesSpec) :=
  OpenClaim.holds_of_wide 11 Try.f11 rfl rfl rfl rfl rfl rfl rfl ⟨rfl, rfl, rfl, rfl, rfl⟩ rfl rfl rfl rfl rfl (by kernel_rfl) Try.func11 (by kernel_rfl)
    (of_decide_eq_true (by kernel_rfl)) (by unfold Func.isWrapper; first | (rw [if_pos (by decide +kernel)]; kernel_rfl) | (rw [if_neg (by decide +kernel)]; exact ⟨rfl, rfl⟩))
    (fun os started H enc _ => lifted os started H enc)

theorem proved : Rows.NetworkClonesSaid :=
  over
#print axioms proved
end Go.Proofs.Ytbfkmdcjamillaa.networkClones
