/- Network: the law's model; contract of its send. -/
import Derived.Test.YtbfkmdcjamillaaLkA
import Derived.Test.YtbfkmdcjamillaaLawA
import Derived.Deep.RegionLaw
import Derived.BigQuiet
namespace Go.Proofs.Ytbfkmdcjamillaa
open Go.RowKit
attribute [local go_sem ↓] Go.wp_at_zero Go.wp_at_succ

theorem infoPc : (Try.prog.info? 85).map (fun i => (i.zero, i.size, i.bytes)) = some (some (.agg #[.int .i64 0, .string ByteArray.empty, .string ByteArray.empty, .string ByteArray.empty]), 4, 56) := by kernel_rfl
theorem mdelays_la (b : UInt8) (w : World) : Calls Try.prog 14 #[.int .u8 b.toNat] w fun e w' => ∃ v, e = .returned v ∧ LAt w.heap.size w' (delaysL b) v ∧ Only Nobody w w' := by
  unfold delaysL
  by_cases h : b.toNat % 4 = 3
  · refine (mdelays_none b h w).mono ?_
    rintro e w' ⟨rfl, rfl⟩
    exact ⟨_, rfl, .inl ⟨by simp [h], rfl⟩, Only.refl _ _⟩
  · by_cases h2 : b.toNat % 4 = 2
    · refine (mdelays_two b h2 w).mono ?_
      rintro e w' ⟨rfl, rfl⟩
      exact ⟨_, rfl, .inr ⟨w.heap.size, by simp [h2], by simp [h2]; exact Blk.new _ _ _, Nat.le_refl _⟩, (Only.refl _ _).alloc _⟩
    · refine (mdelays_one b h h2 w).mono ?_
      rintro e w' ⟨rfl, rfl⟩
      exact ⟨_, rfl, .inr ⟨w.heap.size, by simp [h, h2], by simp [h, h2]; exact Blk.new _ _ _, Nat.le_refl _⟩, (Only.refl _ _).alloc _⟩
theorem mcopies_le (L : LinkS) (a b : ByteArray) : (L.copies a b).length ≤ 2 := by unfold LinkS.copies; split; (· simp); exact delaysL_le _
theorem mcopies_bd (L : LinkS) (a b : ByteArray) : ∀ d ∈ L.copies a b, 1 ≤ d ∧ d ≤ 8 := by unfold LinkS.copies; split; (· simp); exact delaysL_bd _
def MSendPost (M : Nat) (vs vp vc : Value) (r : Int × LinkS) (w : World) (e : Ending) (w' : World) : Prop :=
  e = .returned (.int .i64 r.1) ∧ ∃ vp', LkAt w' M r.2 vs vp' vc ∧ Only (fun k => k = M ∨ vp.ownBlock = some k) w w' ∧ NewOf vp vp' w
/-- The state behind the two counts. -/
def LinkS.counted (L : LinkS) (n : Nat) : LinkS := { L with sent := L.sent + 1, lost := L.lost + (if n = 0 then 1 else 0) }
def LinkS.upto (L : LinkS) (a b c : ByteArray) (l : List Int) (k : Nat) : LinkS := { L.counted l.length with pcs := L.pcs ++ newM L.now L.sent a b c l k }
theorem upto_succ (L : LinkS) (a b c : ByteArray) (l : List Int) (k : Nat) : L.upto a b c l (k + 1) = { L.upto a b c l k with pcs := (L.upto a b c l k).pcs ++ [⟨L.now + l.getD k 0, L.sent, k, a, b, c⟩] } := by
  unfold LinkS.upto
  simp [newM, List.range_succ]
theorem upto_len (L : LinkS) (a b c : ByteArray) (l : List Int) (k : Nat) : (L.upto a b c l k).pcs.length = L.pcs.length + k := by
  unfold LinkS.upto
  simp [newM]
theorem newM_succ (now sent : Nat) (a b c : ByteArray) (l : List Int) (k : Nat) : newM now sent a b c l (k + 1) = newM now sent a b c l k ++ [⟨now + l.getD k 0, sent, k, a, b, c⟩] := by simp [newM, List.range_succ]
theorem upto_all (L : LinkS) (a b c : ByteArray) (hp : (placeB a && placeB b) = true) (hl : ¬ 4096 < L.pcs.length + (L.copies a b).length) : mSend L a b c = (0, L.upto a b c (L.copies a b) (L.copies a b).length) := by
  unfold mSend
  rw [if_neg (by rw [hp]; simp), if_neg hl]
  rfl
theorem upto_zero (L : LinkS) (a b c : ByteArray) (l : List Int) : L.upto a b c l 0 = L.counted l.length := by
  unfold LinkS.upto
  simp [newM]
  rfl
/-- The new piece put behind the others. -/
theorem lk_push {wr w1 : World} {M : Nat} {L : LinkS} {vs v v' vc : Value} {p : Pc} (h : LkAt wr M L vs v vc) (hO : Only (fun k => v.ownBlock = some k) wr w1) (hrow : w1.ownsRow 0 85 4 v' (L.pcs.length + 1) (pcC L.pcs ++ pcCells p)) (hn : ∀ k, v'.ownBlock = some k → v.ownBlock = some k ∨ wr.heap.size ≤ k) :
    LkAt (w1.setCell ⟨M, 4, none⟩ v') M { L with pcs := L.pcs ++ [p] } vs v' vc ∧ Only (fun k => k = M ∨ v.ownBlock = some k) wr (w1.setCell ⟨M, 4, none⟩ v') := by
  have hb : Blk w1 M 49 #[vs, .int .i64 L.now, .int .i64 L.sent, .int .i64 L.lost, v, vc] := hO.blk h.blk (fun e => h.neP e)
  have hO2 : Only (fun k => k = M ∨ v.ownBlock = some k) wr (w1.setCell ⟨M, 4, none⟩ v') := (hO.mono (fun k e => .inr e)).setCell (p := ⟨M, 4, none⟩) (.inl (.inl rfl)) v'
  have hM : Only (· = M) w1 (w1.setCell ⟨M, 4, none⟩ v') := (Only.refl (· = M) w1).setCell (p := ⟨M, 4, none⟩) (.inl rfl) v'
  refine ⟨⟨hb.set_ 4 v', hO2.row h.scr (fun g e hg => ?_), hM.row ?_ (fun g e hg => ?_), hO2.row h.cts (fun g e hg => ?_)⟩, hO2⟩
  · rcases hg with rfl | hg
    · exact h.neS e
    · exact h.neSP e hg
  · show w1.ownsRow 0 _ 4 v' (L.pcs ++ [p]).length (pcC (L.pcs ++ [p]))
    rw [List.length_append, List.length_singleton, show pcC (L.pcs ++ [p]) = pcC L.pcs ++ pcCells p by simp [pcC]]
    exact hrow
  · rcases hn g e with h1 | h1
    · exact h.neP (by rw [h1, hg])
    · have := h.blk.lt; omega
  · rcases hg with rfl | hg
    · exact h.neC e
    · exact h.nePC hg e

set_option maxRecDepth 100000 in
set_option maxHeartbeats 4000000 in
theorem msend_bad (M : Nat) (L : LinkS) (vs vp vc : Value) (a b c : ByteArray) (w : World) (h : LkAt w M L vs vp vc) (hp : (placeB a && placeB b) = false) (ha : a.size ≤ maxLen) (hb : b.size ≤ maxLen) : Calls Try.prog 39 #[.pointer (some ⟨M, 0, none⟩), .string a, .string b, .string c] w (MSendPost M vs vp vc (mSend L a b c) w) := by
  have HP : Hid (MSendPost M vs vp vc (mSend L a b c) w (.returned (.int .i64 12)) w) := Lib.hid (by
    unfold mSend
    rw [if_pos hp]
    exact ⟨rfl, vp, h, Only.refl _ _, fun _ e => .inl e⟩)
  cases hpa : placeB a with
  | false =>
    have HA := Lib.hid hpa
    clear h hp hpa
    go_enter Try.func39, Try.ntmps39
    go_wp2_with fail
    refine (mplace_any a w ha).mono ?_
    rw [HA.out]
    rintro e w' ⟨rfl, rfl⟩
    go_wp2_with fail
    go_ret
    exact HP.out
  | true =>
    have HA := Lib.hid hpa
    have HB : Hid (placeB b = false) := Lib.hid (by rw [hpa] at hp; simpa using hp)
    clear h hp hpa
    go_enter Try.func39, Try.ntmps39
    go_wp2_with fail
    refine (mplace_any a w ha).mono ?_
    rw [HA.out]
    rintro e w' ⟨rfl, rfl⟩
    go_wp2_with fail
    refine (mplace_any b w hb).mono ?_
    rw [HB.out]
    rintro e w' ⟨rfl, rfl⟩
    go_wp2_with fail
    go_ret
    exact HP.out

set_option maxRecDepth 100000 in
set_option maxHeartbeats 4000000 in
theorem msend_good (M : Nat) (L : LinkS) (vs vp vc : Value) (a b c : ByteArray) (w : World) (h : LkAt w M L vs vp vc) (hp : (placeB a && placeB b) = true) (hpl : L.pcs.length ≤ 4000) (hcl : L.cuts.length ≤ 5000) (hnow : L.now ≤ 100000) (hsent : L.sent ≤ 100000) (hlost : L.lost ≤ 100000) (hscr : L.script.length ≤ 1000000000000000) : Calls Try.prog 39 #[.pointer (some ⟨M, 0, none⟩), .string a, .string b, .string c] w (MSendPost M vs vp vc (mSend L a b c) w) := by
  have HOU : Hid (mSend L a b c = (0, L.upto a b c (L.copies a b) (L.copies a b).length)) := Lib.hid (upto_all L a b c hp (by have := mcopies_le L a b; omega))
  rw [HOU.out]
  obtain ⟨ha, hb⟩ : placeB a = true ∧ placeB b = true := by simpa using hp
  have HA := Lib.hid ha
  have HB := Lib.hid hb
  have ha2 := Lib.hid (place_small ha)
  have hb2 := Lib.hid (place_small hb)
  have H := Lib.hid h
  obtain ⟨T, HTT⟩ : ∃ T, Hid (L.sent = T) := ⟨_, Lib.hid rfl⟩
  obtain ⟨N, HNN⟩ : ∃ N, Hid (L.script.length = N) := ⟨_, Lib.hid rfl⟩
  rw [HTT.out] at hsent
  rw [HNN.out] at hscr
  obtain ⟨A, cs, hvs⟩ := own_form h.scr
  rw [HNN.out] at hvs
  have HK : Hid (∀ w', Only Nobody w w' → w'.cell? ⟨M, 0, none⟩ = some (.slice A N cs) ∧ w'.cell? ⟨M, 2, none⟩ = some (.int .i64 (T : Int))) := Lib.hid fun w' ho => by
    have h0 := (H.out.same ho).blk.cell 0
    have h2 := (H.out.same ho).blk.cell 2
    rw [HTT.out] at h2
    rw [hvs] at h0
    exact ⟨h0, h2⟩
  have HVS := Lib.hid hvs
  clear hp ha hb h hvs
  obtain ⟨c0, c2⟩ := HK.out _ (Only.refl _ _)
  have hT0 : (0 : Int) ≤ (T : Int) := by omega
  go_enter Try.func39, Try.ntmps39
  go_wp2_with fail
  refine (mplace_any a w ha2.out).mono ?_
  rw [HA.out]
  rintro e w' ⟨rfl, rfl⟩
  go_wp2_with fail
  refine (mplace_any b w hb2.out).mono ?_
  rw [HB.out]
  rintro e w' ⟨rfl, rfl⟩
  go_upto_region 4 with fail
  go_cut [29] (fun s wx => s = .bool (decide (T < N)) ∧ Only Nobody w wx)
  case first =>
    go_quiet (fail)
    go_wp2_with fail
    go_meet
    exact ⟨congrArg Value.bool (by simp), (Only.refl _ _).drewN _⟩
  case rest =>
    obtain ⟨rfl, ho1⟩ := hcut
    have HO1 := Lib.hid ho1
    clear ho1 c0 c2
    go_upto_if 29 with fail
    go_cut [9] (fun s9 wx => s9 = .int .u8 L.byte.toNat ∧ Only Nobody w wx)
    case first =>
      by_cases hul : T < N
      · have hdt : decide (T < N) = true := decide_eq_true hul
        obtain ⟨c0, c2⟩ := HK.out _ HO1.out
        have hrow := (HO1.out.row H.out.scr (fun _ _ x => x))
        rw [HNN.out] at hrow
        obtain ⟨g, cs', hv, _, hgl⟩ := hrow.form (by omega)
        have hv2 := HVS.out.symm.trans hv
        simp only [Value.slice.injEq, true_and] at hv2
        obtain ⟨rfl, rfl⟩ := hv2
        have hb9 : L.script[T]? = some L.byte := by
          unfold LinkS.byte
          rw [HTT.out, List.getD_eq_getElem?_getD, List.getElem?_eq_getElem (by rw [HNN.out]; exact hul)]; rfl
        have cb : wc.cell? ⟨g, T, none⟩ = some (.int .u8 L.byte.toNat) := by
          have h1 := hrow.cells (g := g) (by rw [HVS.out]; rfl) T (.int .u8 L.byte.toNat) (by simp [byteVals, hb9])
          rw [← h1, addr0]
        clear hb9 hv hrow
        go_wp2_with fail
        go_quiet (fail)
        go_wp2_with fail
        go_meet
        exact ⟨rfl, HO1.out.drewN _⟩
      · have hdt : decide (T < N) = false := decide_eq_false hul
        go_wp2_with fail
        go_meet
        have : L.byte = 0 := by
          unfold LinkS.byte
          rw [HTT.out, List.getD_eq_getElem?_getD, List.getElem?_eq_none (by rw [HNN.out]; omega)]; rfl
        rw [this]
        exact ⟨rfl, HO1.out⟩
    case rest =>
      obtain ⟨rfl, ho2⟩ := hcut
      have HO2 := Lib.hid ho2
      clear ho2
      go_wp2_with fail
      refine (mdelays_la L.byte wc).mono ?_
      rintro e w3 ⟨v, rfl, hl3, ho3⟩
      have HL3 := Lib.hid (hl3.base (B' := w.heap.size) HO2.out.size)
      have HO3 := Lib.hid (HO2.out.trans ho3)
      clear hl3 ho3
      go_wp2_with fail
      refine (mcut_any M L vs vp vc a b w3 (H.out.same HO3.out) hcl).mono ?_
      rintro e w4 ⟨rfl, ho4⟩
      have HO4 := Lib.hid (HO3.out.trans ho4)
      have HL4 := Lib.hid (HL3.out.keep ho4 (fun _ _ x => x))
      clear ho4
      go_upto_if 46 with fail
      go_cut [10] (fun s wx => LAt w.heap.size wx (L.copies a b) s ∧ Only Nobody w wx)
      case first =>
        cases hcu : L.cutI a b with
        | some k =>
          have hcN : cutN L a b = (k : Int) := by unfold cutN; rw [hcu]
          have HCO : Hid (L.copies a b = []) := Lib.hid (by unfold LinkS.copies; rw [hcu]; rfl)
          rw [hcN]
          have hk0 : (0 : Int) ≤ (k : Int) := by omega
          have hkd : decide ((0 : Int) ≤ (k : Int)) = true := by simp
          clear hcu hcN
          go_wp2_with fail
          go_meet
          exact ⟨.inl ⟨HCO.out, rfl⟩, HO4.out⟩
        | none =>
          have hcN : cutN L a b = -1 := by unfold cutN; rw [hcu]
          have HCO : Hid (L.copies a b = delaysL L.byte) := Lib.hid (by unfold LinkS.copies; rw [hcu]; rfl)
          rw [hcN]
          clear hcu hcN
          go_wp2_with fail
          go_meet
          rw [HCO.out]
          exact ⟨HL4.out, HO4.out⟩
      case rest =>
        obtain ⟨hl5, ho5⟩ := hcut
        obtain ⟨cp, HCP⟩ : ∃ cp, Hid (L.copies a b = cp) := ⟨_, Lib.hid rfl⟩
        have hc2 := mcopies_le L a b
        have hcb := mcopies_bd L a b
        rw [HCP.out] at hl5 hc2 hcb
        have HCB := Lib.hid hcb
        clear hcb
        have HL5 := Lib.hid hl5
        have HO5 := Lib.hid ho5
        obtain ⟨n, HN2⟩ : ∃ n, Hid (cp.length = n) := ⟨_, Lib.hid rfl⟩
        have hfm := hl5.form
        rw [HN2.out] at hfm hc2
        obtain ⟨A', rfl⟩ := hfm
        have H5 := Lib.hid (H.out.same ho5)
        obtain ⟨Q, HQ⟩ : ∃ Q, Hid (L.pcs.length = Q) := ⟨_, Lib.hid rfl⟩
        obtain ⟨S, HS⟩ : ∃ S, Hid (L.lost = S) := ⟨_, Lib.hid rfl⟩
        obtain ⟨Ap, cap, hvp⟩ := own_form H.out.pcs
        rw [HQ.out] at hvp
        rw [HQ.out] at hpl
        rw [HS.out] at hlost
        have k4 : wc.cell? ⟨M, 4, none⟩ = some (.slice Ap Q cap) := by
          have := H5.out.blk.cell 4
          rw [hvp] at this
          exact this
        have k2 : wc.cell? ⟨M, 2, none⟩ = some (.int .i64 (T : Int)) := by
          have := H5.out.blk.cell 2
          rw [HTT.out] at this
          exact this
        have k3 : wc.cell? ⟨M, 3, none⟩ = some (.int .i64 (S : Int)) := by
          have := H5.out.blk.cell 3
          rw [HS.out] at this
          exact this
        have f2 : wc.frozen? ⟨M, 2, none⟩ = false := H5.out.blk.frozen 2
        have f3 : wc.frozen? ⟨M, 3, none⟩ = false := H5.out.blk.frozen 3
        have hMz : M < wc.heap.size := H5.out.blk.lt
        have hnI : (n : Int) ≤ 2 := by omega
        have hn0 : (0 : Int) ≤ (n : Int) := by omega
        have hQI : (Q : Int) ≤ 4000 := by omega
        have hTI : (T : Int) ≤ 100000 := by omega
        have hSI : (S : Int) ≤ 100000 := by omega
        have HFM : Hid (∀ w2, Only (· = M) wc w2 → Blk w2 M 49 #[vs, .int .i64 L.now, .int .i64 ((T + 1 : Nat) : Int), .int .i64 ((S + (if n = 0 then 1 else 0) : Nat) : Int), vp, vc] → LkAt w2 M (L.counted n) vs vp vc ∧ LAt w.heap.size w2 cp (.slice A' n n) ∧ Only (fun k => k = M ∨ vp.ownBlock = some k) w w2) := Lib.hid fun w2 ho hb => by
          refine ⟨⟨?_, ho.row H5.out.scr (fun g e hg => H5.out.neS (by rw [e, hg])), ho.row H5.out.pcs (fun g e hg => H5.out.neP (by rw [e, hg])), ho.row H5.out.cts (fun g e hg => H5.out.neC (by rw [e, hg]))⟩, ?_, (HO5.out.mono (fun _ x => x.elim)).trans (ho.mono (fun k e => .inl e))⟩
          · unfold LinkS.counted
            rw [HTT.out, HS.out]
            exact hb
          · have := HL5.out.keep ho (fun g e hg => by
              have h1 := HL5.out.ge g e
              have h2 := H.out.blk.lt
              omega)
            exact this
        have HB5 : Hid (Blk wc M 49 #[vs, .int .i64 L.now, .int .i64 (T : Int), .int .i64 (S : Int), vp, vc]) := Lib.hid (by
          have := H5.out.blk
          rw [HTT.out, HS.out] at this
          exact this)
        have HVP := Lib.hid hvp
        clear hl5 ho5 hvp
        go_upto_if 65 with fail
        go_cut [] (fun wx => LkAt wx M (L.counted n) vs vp vc ∧ LAt w.heap.size wx cp (.slice A' n n) ∧ Only (fun k => k = M ∨ vp.ownBlock = some k) w wx)
        case first =>
          by_cases h0 : n = 0
          · subst h0
            go_wp2_with fail
            go_meet
            refine HFM.out _ ((((Only.refl (· = M) wc).setCell (p := ⟨M, 2, none⟩) (.inl rfl) _).setCell (p := ⟨M, 3, none⟩) (.inl rfl) _)) ?_
            have e1 : ((T + 1 : Nat) : Int) = (T : Int) + 1 := by omega
            have e2 : ((S + 1 : Nat) : Int) = (S : Int) + 1 := by omega
            show Blk _ M _ #[vs, .int .i64 L.now, .int .i64 ((T + 1 : Nat) : Int), .int .i64 ((S + 1 : Nat) : Int), vp, vc]
            rw [e1, e2]
            exact (HB5.out.set_ 2 _).set_ 3 _
          · have h1 : ¬ (n : Int) = 0 := by omega
            have h2 : ((n : Int) == 0) = false := by simpa using h1
            go_wp2_with fail
            go_meet
            refine HFM.out _ (((Only.refl (· = M) wc).setCell (p := ⟨M, 2, none⟩) (.inl rfl) _)) ?_
            have e1 : ((T + 1 : Nat) : Int) = (T : Int) + 1 := by omega
            have e2 : ((S + (if n = 0 then 1 else 0) : Nat) : Int) = (S : Int) := by rw [if_neg h0]; simp
            rw [e1, e2]
            exact HB5.out.set_ 2 _
        case rest =>
          obtain ⟨h6, hl6, ho6⟩ := hcut
          have H6 := Lib.hid h6
          have HL6 := Lib.hid hl6
          have HO6 := Lib.hid ho6
          clear h6 hl6 ho6 k4 k2 k3 f2 f3
          obtain ⟨i0, hi0, hz0, hz1, hz2⟩ := info_parts infoPc
          go_wp2_with fail
          go_loopw [11] (fun i wx => ∃ (j : Nat) (v' : Value), i = .int .i64 (j : Int) ∧ j ≤ n ∧ Hid (LkAt wx M (L.upto a b c cp j) vs v' vc) ∧ Hid (LAt w.heap.size wx cp (.slice A' n n)) ∧ Hid (Only (fun k => k = M ∨ vp.ownBlock = some k) w wx) ∧ Hid (NewOf vp v' w)) (fun i _ => n - (intOf i).toNat)
          case atStart => exact ⟨0, vp, rfl, Nat.zero_le _, Lib.hid (by rw [upto_zero, HN2.out]; exact H6.out), HL6, HO6, Lib.hid (fun _ e => .inl e)⟩
          case round =>
            obtain ⟨j, v', rfl, hj, HJ, HLJ, HOJ, HNJ⟩ := hrel
            by_cases hjn : j < n
            · have hjI : (j : Int) < (n : Int) := by omega
              have hj0 : (0 : Int) ≤ (j : Int) := by omega
              obtain ⟨d, hd⟩ : ∃ d, cp[j]? = some d := ⟨_, List.getElem?_eq_getElem (by rw [HN2.out]; exact hjn)⟩
              have hdb := HCB.out d (List.mem_of_getElem? hd)
              have HD : Hid (cp.getD j 0 = d) := Lib.hid (by rw [List.getD_eq_getElem?_getD, hd]; rfl)
              obtain ⟨g, hgv, hgb, hgw⟩ : ∃ g, (Value.slice A' n n) = .slice (some ⟨g, 0, none⟩) n n ∧ Blk wr g 3 (cp.map (Value.int .i64)).toArray ∧ w.heap.size ≤ g := by
                rcases HLJ.out with ⟨e, _⟩ | ⟨g, e, hb, hg⟩
                · rw [e] at hd; cases hd
                · rw [HN2.out] at e; exact ⟨g, e, hb, hg⟩
              simp only [Value.slice.injEq, and_true] at hgv
              subst hgv
              obtain ⟨U, HU⟩ : ∃ U, Hid ((L.upto a b c cp j) = U) := ⟨_, Lib.hid rfl⟩
              have HJU : Hid (LkAt wr M U vs v' vc) := Lib.hid (by rw [← HU.out]; exact HJ.out)
              have HUL : Hid (U.pcs.length = Q + j) := Lib.hid (by rw [← HU.out, upto_len, HQ.out])
              obtain ⟨W0, HW0⟩ : ∃ W0, Hid (U.now = W0) := ⟨_, Lib.hid rfl⟩
              have HWL : Hid (W0 = L.now) := Lib.hid (by rw [← HW0.out, ← HU.out]; rfl)
              have hW0 : (W0 : Int) ≤ 100000 := by rw [HWL.out]; omega
              have hW00 : (0 : Int) ≤ (W0 : Int) := by omega
              obtain ⟨Av, cv, rfl⟩ := own_form HJU.out.pcs
              have HNJ : Hid (NewOf vp (.slice Av (Q + j) cv) w) := Lib.hid (by have := HNJ.out; rw [HUL.out] at this; exact this)
              have HFC : Hid (∀ w', Only Nobody wr w' → w'.cell? ⟨M, 4, none⟩ = some (.slice Av (Q + j) cv) ∧ w'.cell? ⟨M, 1, none⟩ = some (.int .i64 (W0 : Int)) ∧ w'.cell? ⟨g, j, none⟩ = some (.int .i64 d)) := Lib.hid fun w' ho => by
                have h1 := (HJU.out.same ho).blk.cell 4
                have h2 := (HJU.out.same ho).blk.cell 1
                have h3 := (ho.blk hgb (fun x => x)).cell j
                rw [HUL.out] at h1
                rw [HW0.out] at h2
                refine ⟨h1, h2, h3.trans ?_⟩
                simp [hd]
              obtain ⟨y4, y1, yd⟩ := HFC.out _ (Only.refl _ _)
              have yf : wr.frozen? ⟨M, 4, none⟩ = false := HJU.out.blk.frozen 4
              have hMr : M < wr.heap.size := HJU.out.blk.lt
              have hw1 : IntKind.i64.wrap ((W0 : Int) + d) = (W0 : Int) + d := by rw [IntKind.wrap_i64]; omega
              have HR : Hid (Reads (wr.alloc (.cells #[.int .i64 ((W0 : Int) + d), .string a, .string b, .string c] 85)).drew (wr.heap.size + 1) 4 (some ⟨wr.heap.size, 0, none⟩) 1 (pcCells ⟨(W0 : Int) + d, L.sent, j, a, b, c⟩)) := Lib.hid (reads_alloc wr 85 #[.int .i64 ((W0 : Int) + d), .string a, .string b, .string c] 4 1 rfl)
              have HRW : Hid ((wr.alloc (.cells #[.int .i64 ((W0 : Int) + d), .string a, .string b, .string c] 85)).drew.ownsRow 0 85 4 (.slice Av (Q + j) cv) (Q + j) (pcC U.pcs)) := Lib.hid (by
                have := HJU.out.pcs
                rw [HUL.out] at this
                exact Only.row (F := Nobody) (by repeat (first | exact Only.refl _ _ | refine Only.drew ?_ | refine Only.alloc ?_ _)) this (fun _ _ x => x))
              have HUC : Hid (∀ u ∈ pcCells ⟨(W0 : Int) + d, L.sent, j, a, b, c⟩, u.oneCell' = true) := Lib.hid (by intro u hu; simp only [pcCells, List.mem_cons, List.not_mem_nil, or_false] at hu; rcases hu with rfl | rfl | rfl | rfl <;> rfl)
              have HNE : Hid ((Value.slice Av (Q + j) cv).ownBlock ≠ some M) := Lib.hid (by have := HJU.out.neP; rw [HUL.out] at this; exact this)
              have hQj : Q + j + 1 ≤ 5000 := by omega
              clear hd hgb hdb
              go_upto_region 17 with fail
              go_region_law (refine step_append_any _ rfl (.tmp 83) (.tmp 97) 46 rfl 0 85 i0 _ 4 56 Try.underlying46 hi0 hz0 hz1 hz2 rfl (by omega) (.slice Av (Q + j) cv) (Q + j) (pcC U.pcs) (by simp [Act.eval]) HRW.out _ (some ⟨wr.heap.size, 0, none⟩) 1 1 (pcCells ⟨(W0 : Int) + d, L.sent, j, a, b, c⟩) (by simp [Act.eval]) HR.out HUC.out (by unfold maxLen; omega) (by omega) (by omega) ?_; intro v2 w1 hown' hgrow hat; obtain ⟨A2, c2', rfl⟩ := own_form hown'; have HO' := Lib.hid hown'; have HAT := Lib.hid hat; have HG := Lib.hid hgrow; have hbO : Blk w1 M 49 #[vs, .int .i64 U.now, .int .i64 U.sent, .int .i64 U.lost, .slice Av U.pcs.length cv, vc] := (hgrow.block M (by simp; omega) (fun e => HNE.out e.symm)).trans ((HJU.out.same ((Only.refl Nobody wr).alloc _).drew).blk); have k1 : w1.cell? ⟨M, 4, none⟩ = some (.slice Av U.pcs.length cv) := hbO.cell 4; have g1 : w1.frozen? ⟨M, 4, none⟩ = false := hbO.frozen 4; clear hown' hat hgrow hbO)
              all_goals
                have hNO : NewOf (.slice Av (Q + j) cv) (.slice A2 (Q + j + 1) c2') wr := fun k hk => HAT.out.elim (fun e => .inl (by rw [← e]; exact hk)) (fun e => .inr (by
                  rw [e] at hk
                  injection hk with hk
                  simp at hk
                  omega))
                have hON : Only (fun k => (Value.slice Av (Q + j) cv).ownBlock = some k) wr w1 := (((Only.refl _ wr).alloc _).drew).trans (Only.of_grown HG.out (fun k e => e))
                have hM : LkAt wr M U vs (.slice Av (Q + j) cv) vc := by have := HJU.out; rw [HUL.out] at this; exact this
                have hrow : w1.ownsRow 0 85 4 (.slice A2 (Q + j + 1) c2') (U.pcs.length + 1) (pcC U.pcs ++ pcCells ⟨(W0 : Int) + d, L.sent, j, a, b, c⟩) := by
                  rw [HUL.out]; exact HO'.out
                have hE := lk_push hM hON hrow hNO
                have H7 : Hid (LkAt (w1.setCell ⟨M, 4, none⟩ (.slice A2 (Q + j + 1) c2')) M (L.upto a b c cp (j + 1)) vs (.slice A2 (Q + j + 1) c2') vc) := Lib.hid (by
                  rw [upto_succ, HU.out, HD.out, ← HWL.out]
                  exact hE.1)
                have HO7 : Hid (Only (fun k => k = M ∨ vp.ownBlock = some k) w (w1.setCell ⟨M, 4, none⟩ (.slice A2 (Q + j + 1) c2'))) := Lib.hid (HOJ.out.trans_more (hE.2.mono (fun k hk => by
                  rcases hk with hk | hk
                  · exact .inl (.inl hk)
                  · rcases HNJ.out k hk with e | e
                    · exact .inl (.inr e)
                    · exact .inr e)))
                have HN7 : Hid (NewOf vp (.slice A2 (Q + j + 1) c2') w) := Lib.hid (fun k hk => by
                  rcases hNO k hk with e | e
                  · exact HNJ.out k e
                  · exact .inr (Nat.le_trans HOJ.out.size e))
                have HL7 : Hid (LAt w.heap.size (w1.setCell ⟨M, 4, none⟩ (.slice A2 (Q + j + 1) c2')) cp (.slice (some ⟨g, 0, none⟩) n n)) := Lib.hid (HLJ.out.keep hE.2 (fun g' e hg => by
                  simp only [Value.ownBlock, Option.some.injEq] at e
                  subst e
                  rcases hg with e | e
                  · have h1 := H.out.blk.lt
                    omega
                  · have h1 := row_type HJU.out.pcs (k := g) (by rw [HUL.out]; exact e)
                    obtain ⟨cs1, hb1⟩ := h1
                    rcases HLJ.out with ⟨_, e3⟩ | ⟨g3, e3, hb3, _⟩
                    · cases e3
                    · injection e3 with e3
                      injection e3 with e3
                      injection e3 with e3
                      subst e3
                      exact Blk.ne_ hb1 hb3 (by decide) rfl))
                clear hNO hON hM hrow hE
                go_wp2_with fail
                go_roundw
                case rel =>
                  first
                  | exact ⟨j + 1, _, by go_num, by omega, H7, HL7, HO7, HN7⟩
                  | ((repeat apply Exists.intro); exact ⟨⟨j + 1, _, by go_num, by omega, H7, HL7, HO7, HN7⟩, rfl⟩)
                case measure => simp [intOf]; omega
            · obtain rfl : j = n := by omega
              go_wp2_with fail
              go_ret
              rw [HCP.out, HN2.out]
              exact ⟨rfl, v', HJ.out, HOJ.out, HNJ.out⟩
end Go.Proofs.Ytbfkmdcjamillaa
