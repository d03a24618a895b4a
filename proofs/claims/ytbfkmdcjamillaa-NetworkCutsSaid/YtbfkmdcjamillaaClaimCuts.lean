/- Proved: packets over a link that is cut are lost in both directions, others are not, for all numbers of places (the statement NetworkCutsSaid); no condition. -/
import Derived.Test.YtbfkmdcjamillaaLawCuts
import Derived.Test.YtbfkmdcjamillaaFrame
import Derived.Test.YtbfkmdcjamillaaSlices
import Derived.Carry
namespace Go.Proofs.Ytbfkmdcjamillaa.networkCuts
open Go.ChangeShapes Go.WideShapes Go.ChangeAt Go.RowKit
open Go.ChangeMaps (open_string shut_string)

theorem u8_of {a : Int} (h : (Lit.int .u8 a).wf = true) : ∃ b : UInt8, a = (b.toNat : Int) := by
  obtain ⟨h0, h1⟩ := bounds_u8 h
  refine ⟨UInt8.ofNat a.toNat, ?_⟩
  rw [UInt8.toNat_ofNat_of_lt' (show a.toNat < UInt8.size by simp [UInt8.size]; omega)]
  omega

set_option maxRecDepth 100000 in
theorem lifted (os : Os) (started : os.Started) (H : Type) (enc : TypeId × Value → H) :
    ReturnsInHanded {} Try.checked os 10 .any (Rows.networkCutsSpec.pre6 enc Try.prog Try.f10 Rows.networkCutsRow.domain false) (Rows.networkCutsSpec.post enc Try.prog Try.f10 false true false false) := by
  refine returnsInHanded_of_change_sized (C := Try.checked) Try.own' started (by kernel_rfl) Try.func10
    (ChangeSpec.witness6 (enc := enc) (C := Try.checked) false ⟨#[], #[.int .u8 0, .int .u8 0, .slice none 0 0], []⟩ 8 (by kernel_rfl) (by kernel_rfl) (by kernel_rfl) (by kernel_rfl)) ?_
  intro W base args ds gs before hval0 hW hcnd0 hsz0 hholds
  have hval : ∀ (j : Nat) t v, Try.f10.params[j]? = some t → args[j]? = some v → Value.okWide Try.prog W .any base t v := hval0
  have hsz : (DataW.weightsEach Try.prog (Try.f10.params.toList ++ Rows.networkCutsSpec.plain.varTypes Try.prog) (ds ++ gs)).all (· ≤ reachBytes) = true := hsz0
  have hW' := hW
  obtain ⟨p, q, hA0, hV, rfl, hfz, hnd⟩ := hW
  have hA : DataW.TrodAll enc Try.prog W 0 (fun _ => true) true Try.f10.params.toList args.toList ds p := hA0
  rw [Try.params10] at hA hval hsz
  obtain ⟨v0, vs0, d0, ds0, p0, q0, hargs, rfl, rfl, h0, r0⟩ := trodAll_cons hA
  obtain ⟨v1, vs1, d1, ds1, p1, q1, rfl, rfl, rfl, h1, r1⟩ := trodAll_cons r0
  obtain ⟨v2, vs2, d2, ds2, p2, q2, rfl, rfl, rfl, h2, r2⟩ := trodAll_cons r1
  obtain ⟨rfl, rfl, rfl⟩ := trodAll_nil r2
  obtain rfl : args = #[v0, v1, v2] := by cases args; simp_all
  obtain ⟨rfl, rfl⟩ := trodVars_none hV
  obtain ⟨a0, rfl, rfl, rfl, w0⟩ := open_int Try.underlying5 (hval 0 5 v0 rfl rfl) h0
  obtain ⟨b0, rfl⟩ := u8_of w0
  obtain ⟨a1, rfl, rfl, rfl, w1⟩ := open_int Try.underlying5 (hval 1 5 v1 rfl rfl) h1
  obtain ⟨b1, rfl⟩ := u8_of w1
  have hb2 := hval 2 26 v2 rfl rfl
  have h2k := h2
  have hlt2 : ∀ x ∈ p2, x.block < W.heap.size := fun x hx => hW'.lt x (by simp [hx])
  have hs2 : ∀ el sp, d2 = .slice el sp → el.length ≤ reachBytes := by
    rintro el sp rfl
    have := sized_slice hsz (j := 2) (t := 26) rfl rfl Try.underlying26
    have hb : Try.prog.bytesOf 5 = 1 := by kernel_rfl
    rw [hb] at this
    omega
  obtain ⟨A2, n2, c2, X2, rfl, HX2⟩ := open_bytes Try.underlying26 Try.underlying5 (by kernel_rfl) hb2 h2 hlt2 hs2
  clear hA0 hval0
  simp only [List.append_nil] at hW'
  refine (lawCuts W b0 b1 A2 n2 c2 X2 HX2).mono fun e W' ⟨he, hg⟩ => ?_
  subst he
  exact ⟨_, rfl, post_of_below (pa := ([] ++ ([] ++ (p2 ++ [])))) (pv := []) hW' (fun _ _ _ => (trodAll_cons_mk (shut_bool Try.underlying4 _) trodAll_mk0)) (fun sp hsp => (trodAll_cons_mk (shut_int Try.underlying5 w0) (trodAll_cons_mk (shut_int Try.underlying5 w1) (trodAll_cons_mk (Go.WideElems.Trod_stays Try.laidOut (by kernel_rfl) (of_decide_eq_true (by kernel_rfl)) h2k (fun x hx => hg.same (hlt2 x hx)) (fun x hx => hsp x (by simp [hx]))) trodAll_mk0)))) (fun _ _ => rfl) (by simp)
    hg (ok_one (by kernel_rfl) rfl (okWide_bool_mk Try.underlying4 _))⟩

theorem over : Rows.networkCutsRow.holds Try.pinned (OpenSpec.ofChange Rows.networkCutsSpec) :=
  OpenClaim.holds_of_wide 10 Try.f10 rfl rfl rfl rfl rfl rfl rfl ⟨rfl, rfl, rfl, rfl, rfl⟩ rfl rfl rfl rfl rfl (by kernel_rfl) Try.func10 (by kernel_rfl)
    (of_decide_eq_true (by kernel_rfl)) (by unfold Func.isWrapper; first | (rw [if_pos (by decide +kernel)]; kernel_rfl) | (rw [if_neg (by decide +kernel)]; exact ⟨rfl, rfl⟩))
    (fun os started H enc _ => lifted os started H enc)

theorem proved : Rows.NetworkCutsSaid :=
  over
#print axioms proved
end Go.Proofs.Ytbfkmdcjamillaa.networkCuts
