/- Proved: what ExchangeDelivers says of a link that is never cut holds if, at any times, the inbox is replaced by a new one that knows only the last number that was taken, or the outbox by a new one that knows the last number that was acknowledged, and has the pending items (the tied card ExchangeRestartsCardSaid); no condition but that the library's listed tables are as the program's text lays them (the card ties them). -/
import Derived.Test.YthmndclmecnpmaaDoorLnE
import Derived.Test.YthmndclmecnpmaaDoorExStd
import Derived.Test.YthmndclmecnpmaaDoorTie
import Derived.Test.YthmndclmecnpmaaDoorCards
import Derived.SevenTiedAt
import Derived.Carry
namespace Go.Proofs.YthmndclmecnpmaaDoor.exchangeRestarts
open Go.ChangeShapes Go.WideShapes Go.ChangeAt Go.RowKit
open Go.ChangeMaps (open_string shut_string)

theorem u8_of {a : Int} (h : (Lit.int .u8 a).wf = true) : ∃ b : UInt8, a = (b.toNat : Int) := by
  obtain ⟨h0, h1⟩ := bounds_u8 h
  refine ⟨UInt8.ofNat a.toNat, ?_⟩
  rw [UInt8.toNat_ofNat_of_lt' (show a.toNat < UInt8.size by simp [UInt8.size]; omega)]
  omega

set_option maxRecDepth 100000 in
theorem lifted (os : Os) (started : os.Started) (H : Type) (enc : TypeId × Value → H) :
    ReturnsInHanded {} Tryd.checked os 10 .any (fun w args => (Rows.exchangeRestartsSpec.pre enc Tryd.prog Tryd.f10 [] false w args ∧ laidMetH Tryd.prog Rows.exchangeRestartsRow.laid w) ∧ sizedMet enc Tryd.prog Tryd.f10 (OpenSpec.ofChange Rows.exchangeRestartsSpec) false w args)
      (Rows.exchangeRestartsSpec.post enc Tryd.prog Tryd.f10 false true false false) := by
  refine handed_and_shaped (C := Tryd.checked) (X := fun w _ => laidMetH Tryd.prog Rows.exchangeRestartsRow.laid w) (fun _ _ _ hh h => h.of_heap hh) Tryd.own' started (by kernel_rfl) Tryd.func10
    (ChangeSpec.witness_shaped (enc := enc) (C := Tryd.checked) (os := os) (X := fun w _ => laidMetH Tryd.prog Rows.exchangeRestartsRow.laid w) false (World.laidAll Tryd.prog os Rows.exchangeRestartsRow.laid) #[.slice none 0 0, .int .u8 0, .slice none 0 0] 8 (World.laidAll_os _ _ _) (World.shaped_of_ZipB (by kernel_rfl) (by kernel_rfl)) (by kernel_rfl) (by kernel_rfl) (by kernel_rfl) (by rw [MakeChecks.laidMetH_plain _ _ _ (by kernel_rfl)]; exact laidMet_laidAll _ (by kernel_rfl) (by kernel_rfl))) ?_
  intro W base args ds gs before hval0 hW _ hsz0 hL hsh _
  have hval : ∀ (j : Nat) t v, Tryd.f10.params[j]? = some t → args[j]? = some v → Value.okWide Tryd.prog W .any base t v := hval0
  have hsz : (DataW.weightsEach Tryd.prog (Tryd.f10.params.toList ++ Rows.exchangeRestartsSpec.plain.varTypes Tryd.prog) (ds ++ gs)).all (· ≤ reachBytes) = true := hsz0
  have hW' := hW
  obtain ⟨p, q, hA0, hV, rfl, hfz, hnd⟩ := hW
  have hA : DataW.TrodAll enc Tryd.prog W 0 (fun _ => true) true Tryd.f10.params.toList args.toList ds p := hA0
  rw [Tryd.params10] at hA hval hsz
  obtain ⟨v0, vs0, d0, ds0, p0, q0, hargs, rfl, rfl, h0, r0⟩ := trodAll_cons hA
  obtain ⟨v1, vs1, d1, ds1, p1, q1, rfl, rfl, rfl, h1, r1⟩ := trodAll_cons r0
  obtain ⟨v2, vs2, d2, ds2, p2, q2, rfl, rfl, rfl, h2, r2⟩ := trodAll_cons r1
  obtain ⟨rfl, rfl, rfl⟩ := trodAll_nil r2
  obtain rfl : args = #[v0, v1, v2] := by cases args; simp_all
  obtain ⟨rfl, rfl⟩ := trodVars_none hV
  have hb0 := hval 0 45 v0 rfl rfl
  have h0k := h0
  have hlt0 : ∀ x ∈ p0, x.block < W.heap.size := fun x hx => hW'.lt x (by simp [hx])
  have hs0 : ∀ el sp, d0 = .slice el sp → el.length ≤ reachBytes := by
    rintro el sp rfl
    have := sized_slice hsz (j := 0) (t := 45) rfl rfl Tryd.underlying45
    have hb : Tryd.prog.bytesOf 5 = 1 := by kernel_rfl
    rw [hb] at this
    omega
  obtain ⟨A0, n0, c0, X0, rfl, HX0⟩ := open_bytes Tryd.underlying45 Tryd.underlying5 (by kernel_rfl) hb0 h0 hlt0 hs0
  obtain ⟨a1, rfl, rfl, rfl, w1⟩ := open_int Tryd.underlying5 (hval 1 5 v1 rfl rfl) h1
  obtain ⟨b1, rfl⟩ := u8_of w1
  have hb2 := hval 2 45 v2 rfl rfl
  have h2k := h2
  have hlt2 : ∀ x ∈ p2, x.block < W.heap.size := fun x hx => hW'.lt x (by simp [hx])
  have hs2 : ∀ el sp, d2 = .slice el sp → el.length ≤ reachBytes := by
    rintro el sp rfl
    have := sized_slice hsz (j := 2) (t := 45) rfl rfl Tryd.underlying45
    have hb : Tryd.prog.bytesOf 5 = 1 := by kernel_rfl
    rw [hb] at this
    omega
  obtain ⟨A2, n2, c2, X2, rfl, HX2⟩ := open_bytes Tryd.underlying45 Tryd.underlying5 (by kernel_rfl) hb2 h2 hlt2 hs2
  clear hA0 hval0
  simp only [List.append_nil] at hW'
  refine (lawRestarts A0 n0 c0 X0 HX0 b1 A2 n2 c2 X2 HX2 (of_std hL hsh)).mono fun e W' ⟨he, hgo⟩ => ?_
  have hg : Below W.heap.size W W' := hgo.below_all (fun _ _ x => x)
  subst he
  exact ⟨_, rfl, post_of_below (pa := (p0 ++ ([] ++ (p2 ++ [])))) (pv := []) hW' (fun _ _ _ => (trodAll_cons_mk (shut_bool Tryd.underlying4 _) trodAll_mk0)) (fun sp hsp => (trodAll_cons_mk (Go.WideElems.Trod_stays Tryd.laidOut (by kernel_rfl) (of_decide_eq_true (by kernel_rfl)) h0k (fun x hx => hg.same (hlt0 x hx)) (fun x hx => hsp x (by simp [hx]))) (trodAll_cons_mk (shut_int Tryd.underlying5 w1) (trodAll_cons_mk (Go.WideElems.Trod_stays Tryd.laidOut (by kernel_rfl) (of_decide_eq_true (by kernel_rfl)) h2k (fun x hx => hg.same (hlt2 x hx)) (fun x hx => hsp x (by simp [hx]))) trodAll_mk0)))) (fun _ _ => rfl) (by simp)
    hg (ok_one (by kernel_rfl) rfl (okWide_bool_mk Tryd.underlying4 _))⟩

theorem over : Rows.ExchangeRestartsSaid :=
  OpenClaim.holds_of_wide 10 Tryd.f10 rfl rfl rfl rfl rfl rfl rfl ⟨rfl, rfl, rfl, rfl, rfl⟩ rfl rfl rfl rfl rfl (by kernel_rfl) Tryd.func10 (by kernel_rfl)
    (of_decide_eq_true (by kernel_rfl)) (by unfold Func.isWrapper; first | (rw [if_pos (by decide +kernel)]; kernel_rfl) | (rw [if_neg (by decide +kernel)]; exact ⟨rfl, rfl⟩))
    (fun os started H enc _ => lifted os started H enc)

theorem proved : Rows.ExchangeRestartsCardSaid :=
  Claim7.holds_tied_plain_at .later [] [.data, .data, .data, .sentinel, .sentinel] true (true, "e6e5b49c4316e3bbb7ec4904e95914bf04b77457f4396c15f146fd5a69800cd8") true
    over (fun _ h => by cases h) (by kernel_rfl) (fun _ h => by cases h) exchangeRestarts_row_tie rfl ⟨rfl, rfl⟩ (by kernel_rfl) rfl
    (fun f fn hf hfn => by
      obtain rfl : f = 10 := Option.some.inj ((show Tryd.prog.funcNamed "manifold/manifoldlaw49.ExchangeRestarts" = some 10 by kernel_rfl).symm.trans hf) |>.symm
      obtain rfl : fn = Tryd.f10 := (Option.some.inj (Tryd.func10.symm.trans hfn)).symm
      exact ⟨by kernel_rfl, fun j t ht => by
        rw [Tryd.params10] at ht
        have hm : t ∈ [45, 5, 45] := by simpa using Array.mem_of_getElem? ht
        have hall : ([45, 5, 45].all fun u => !Tryd.prog.wantsStandIn u) = true := by kernel_rfl
        exact (show Tryd.prog.wantsStandIn t = false by simpa using List.all_eq_true.1 hall t hm)⟩)
    (by kernel_rfl)
#print axioms proved
end Go.Proofs.YthmndclmecnpmaaDoor.exchangeRestarts
