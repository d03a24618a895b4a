/- Values: contract of value.Clone. -/
import Derived.Test.YtdccckoelnnnoaaDoorVaO
import Derived.Deep.RegionHeldLaw
namespace Go.Proofs.YtdccckoelnnnoaaDoor
open Go.RowKit
attribute [local go_sem ↓] Go.wp_at_zero Go.wp_at_succ

abbrev vAgg (v : VC) : Value := .agg #[.int .i64 v.k, .int .i64 v.i, .int .i64 v.s, .string v.t, .slice v.la v.ln v.lc, .slice v.fa v.fn v.fc]
/-- A value in new memory that reads as the tree. -/
def CloPost (n : Nat) (T : VT) (w : World) (e : Ending) (w' : World) : Prop :=
  ∃ v : VC, e = .returned (.agg #[.int .i64 v.k, .int .i64 v.i, .int .i64 v.s, .string v.t, .slice v.la v.ln v.lc, .slice v.fa v.fn v.fc]) ∧ VAt w' (fun b => w.heap.size ≤ b) n v T ∧ Only Nobody w w'
def CloneOk (n : Nat) : Prop := ∀ (v : VC) (T : VT) (S : Nat → Prop) (w : World), T.size ≤ 140737488351232 → VAt w S n v T → Calls Tryd.prog 37 #[.agg #[.int .i64 v.k, .int .i64 v.i, .int .i64 v.s, .string v.t, .slice v.la v.ln v.lc, .slice v.fa v.fn v.fc]] w (CloPost n T w)
set_option maxRecDepth 100000 in
set_option maxHeartbeats 8000000 in
theorem clone_step (n : Nat) (ih : CloneOk n) : CloneOk (n + 1) := by
  intro v T S w hsz h
  obtain ⟨vk, vi, vs, vt, la, ln, lc, fa, fn, fc⟩ := v
  obtain ⟨⟨hk, hi, hs, ht, hlc, hfc⟩, ⟨V, hV, hA⟩, ⟨F, hF, hB⟩⟩ := h
  dsimp only at hk hi hs ht hlc hfc hV hF ⊢
  have HV := Lib.hid hV
  have HA := Lib.hid hA
  have HF := Lib.hid hF
  have HB := Lib.hid hB
  have HK : Hid (vk = T.k ∧ vi = T.i ∧ vs = T.s ∧ vt = T.t) := Lib.hid ⟨hk, hi, hs, ht⟩
  have HSZ := Lib.hid hsz
  have HIH := Lib.hid ih
  have hln : ln ≤ 1599289640355 := by
    rw [← hV.len, hA.1]; have := sizeL_len T.l; have := size_l T; omega
  have hfn : fn ≤ 1353245080300 := by
    rw [← hF.len, hB.1]; have := sizeF_len T.f; have := size_f T; omega
  have HTL : Hid (T.l.length = ln) := Lib.hid (by rw [← hA.1, hV.len])
  have HTF : Hid (T.f.length = fn) := Lib.hid (by rw [← hB.1, hF.len])
  clear hV hA hF hB hk hi hs ht hlc hfc hsz ih
  have HB1 : Hid (Blk (((w.alloc (.cells #[.int .i64 vk, .int .i64 vi, .int .i64 vs, .string vt, .slice la ln lc, .slice fa fn fc] 25)).alloc (.cells #[.int .i64 0, .int .i64 0, .int .i64 0, .string ⟨#[]⟩, .slice none 0 0, .slice none 0 0] 25)).alloc (.cells #[.int .i64 vk, .int .i64 vi, .int .i64 vs, .string vt, .slice none 0 0, .slice none 0 0] 25)) w.heap.size 25 #[.int .i64 vk, .int .i64 vi, .int .i64 vs, .string vt, .slice la ln lc, .slice fa fn fc]) := Lib.hid (((Blk.new _ _ _).alloc _).alloc _)
  have HR1 : Hid (Blk (((w.alloc (.cells #[.int .i64 vk, .int .i64 vi, .int .i64 vs, .string vt, .slice la ln lc, .slice fa fn fc] 25)).alloc (.cells #[.int .i64 0, .int .i64 0, .int .i64 0, .string ⟨#[]⟩, .slice none 0 0, .slice none 0 0] 25)).alloc (.cells #[.int .i64 vk, .int .i64 vi, .int .i64 vs, .string vt, .slice none 0 0, .slice none 0 0] 25)) (w.heap.size + 1) 25 #[.int .i64 0, .int .i64 0, .int .i64 0, .string ⟨#[]⟩, .slice none 0 0, .slice none 0 0]) := Lib.hid (by
    have := (Blk.new (w.alloc (.cells #[.int .i64 vk, .int .i64 vi, .int .i64 vs, .string vt, .slice la ln lc, .slice fa fn fc] 25)) 25 #[.int .i64 0, .int .i64 0, .int .i64 0, .string ⟨#[]⟩, .slice none 0 0, .slice none 0 0]).alloc (.cells #[.int .i64 vk, .int .i64 vi, .int .i64 vs, .string vt, .slice none 0 0, .slice none 0 0] 25)
    simpa using this)
  have HO1 : Hid (Blk (((w.alloc (.cells #[.int .i64 vk, .int .i64 vi, .int .i64 vs, .string vt, .slice la ln lc, .slice fa fn fc] 25)).alloc (.cells #[.int .i64 0, .int .i64 0, .int .i64 0, .string ⟨#[]⟩, .slice none 0 0, .slice none 0 0] 25)).alloc (.cells #[.int .i64 vk, .int .i64 vi, .int .i64 vs, .string vt, .slice none 0 0, .slice none 0 0] 25)) (w.heap.size + 1 + 1) 25 #[.int .i64 vk, .int .i64 vi, .int .i64 vs, .string vt, .slice none 0 0, .slice none 0 0]) := Lib.hid (by
    have := (Blk.new ((w.alloc (.cells #[.int .i64 vk, .int .i64 vi, .int .i64 vs, .string vt, .slice la ln lc, .slice fa fn fc] 25)).alloc (.cells #[.int .i64 0, .int .i64 0, .int .i64 0, .string ⟨#[]⟩, .slice none 0 0, .slice none 0 0] 25)) 25 #[.int .i64 vk, .int .i64 vi, .int .i64 vs, .string vt, .slice none 0 0, .slice none 0 0])
    simpa using this)
  go_enter Tryd.func37, Tryd.ntmps37
  go_wp2_with fail
  go_loopw [14] (fun i wx => ∃ (j : Nat) (sv : Value), i = .int .i64 (j : Int) ∧ j ≤ ln ∧ Hid (Blk wx w.heap.size 25 #[.int .i64 vk, .int .i64 vi, .int .i64 vs, .string vt, .slice la ln lc, .slice fa fn fc]) ∧ Hid (Blk wx (w.heap.size + 1) 25 #[.int .i64 0, .int .i64 0, .int .i64 0, .string ⟨#[]⟩, .slice none 0 0, .slice none 0 0]) ∧ Hid (Blk wx (w.heap.size + 1 + 1) 25 #[.int .i64 vk, .int .i64 vi, .int .i64 vs, .string vt, sv, .slice none 0 0]) ∧ Hid (OwnV n wx (w.heap.size + 3) sv (T.l.take j)) ∧ Hid (Only Nobody w wx)) (fun i _ => ln - (intOf i).toNat)
  case atStart => exact ⟨0, _, rfl, Nat.zero_le _, HB1, HR1, HO1, Lib.hid OwnG.nil_, Lib.hid ((((Only.refl _ _).alloc _).alloc _).alloc _)⟩
  case round =>
    clear HB1 HR1 HO1
    obtain ⟨j, sv, rfl, hj, HB1, HR1, HO1, HOW, HON⟩ := hrel
    obtain ⟨i0, hi0, hz0, hz1, hz2⟩ := info_parts infoV
    by_cases hjn : j < ln
    · have hjI : (j : Int) < (ln : Int) := by omega
      have hj0 : (0 : Int) ≤ (j : Int) := by omega
      obtain ⟨ad, rfl⟩ := HV.out.some_ (by omega)
      obtain ⟨o, ho⟩ := HV.out.get hjn
      obtain ⟨x, hx, hax⟩ := HA.out.get ho
      have HVA := HV.out
      obtain ⟨a0, a1, a2, a3, a4, a5⟩ := (HVA.same HON.out).vat ho
      have HX := Lib.hid hx
      have HXS : Hid (x.size ≤ 140737488351232) := Lib.hid (by have := sizeL_mem hx; have := size_l T; have := HSZ.out; omega)
      have HAX : Hid (∀ w', Only Nobody wr w' → VAt w' S n o x) := Lib.hid fun w' h => (hax.same (HON.out.trans h))
      have hlen : (T.l.take j).length = j := by rw [List.length_take, HTL.out]; omega
      obtain ⟨A3, c3, hsv⟩ := HOW.out.form
      rw [hlen] at hsv
      subst hsv
      have HLEN := Lib.hid hlen
      obtain ⟨Vs, hrow, hall⟩ := HOW.out
      have HROW : Hid (∀ w', Only Nobody wr w' → w'.ownsRow (w.heap.size + 3) 25 6 (.slice A3 j c3) j (cells VC.vals Vs)) := Lib.hid fun w' h => by
        have := h.row hrow (fun _ _ x => x)
        rw [hlen] at this
        exact this
      have HALL : Hid (∀ w', Only Nobody wr w' → All2 (RV n w' (fun b => w.heap.size + 3 ≤ b ∧ Value.ownBlock (.slice A3 j c3) ≠ some b)) Vs (T.l.take j)) := Lib.hid fun w' h => hall.imp fun _ _ q => (rdV n).keep q h (fun _ _ x => x)
      have HSB : Hid (∀ b, Value.ownBlock (.slice A3 j c3) = some b → w.heap.size + 3 ≤ b ∧ b < wr.heap.size) := Lib.hid hrow.lt
      have HHC : Hid (∀ w', Only (fun q => Value.ownBlock (.slice A3 j c3) = some q) (wr.alloc (.cells #[.int .i64 o.k, .int .i64 o.i, .int .i64 o.s, .string o.t, .slice o.la o.ln o.lc, .slice o.fa o.fn o.fc] 25)) w' → (w'.cell? ⟨wr.heap.size, 0, none⟩ = some (.int .i64 o.k) ∧ w'.cell? ⟨wr.heap.size, 1, none⟩ = some (.int .i64 o.i) ∧ w'.cell? ⟨wr.heap.size, 2, none⟩ = some (.int .i64 o.s) ∧ w'.cell? ⟨wr.heap.size, 3, none⟩ = some (.string o.t) ∧ w'.cell? ⟨wr.heap.size, 4, none⟩ = some (.slice o.la o.ln o.lc) ∧ w'.cell? ⟨wr.heap.size, 5, none⟩ = some (.slice o.fa o.fn o.fc)) ∧ Blk w' (w.heap.size + 1 + 1) 25 #[.int .i64 vk, .int .i64 vi, .int .i64 vs, .string vt, .slice A3 j c3, .slice none 0 0] ∧ Blk w' wr.heap.size 25 #[.int .i64 o.k, .int .i64 o.i, .int .i64 o.s, .string o.t, .slice o.la o.ln o.lc, .slice o.fa o.fn o.fc]) := Lib.hid fun w' h => by
        have hO := h.blk (HO1.out.alloc _) (fun e => by have := (HSB.out _ e).1; omega)
        have hX := h.blk (Blk.new wr 25 #[.int .i64 o.k, .int .i64 o.i, .int .i64 o.s, .string o.t, .slice o.la o.ln o.lc, .slice o.fa o.fn o.fc]) (fun e => by have := (HSB.out _ e).2; omega)
        exact ⟨⟨hX.cell 0, hX.cell 1, hX.cell 2, hX.cell 3, hX.cell 4, hX.cell 5⟩, hO, hX⟩
      obtain ⟨x0, x1, x2, x3, x4, x5⟩ := (HHC.out _ (Only.refl _ _)).1
      have hcO : (wr.alloc (.cells #[.int .i64 o.k, .int .i64 o.i, .int .i64 o.s, .string o.t, .slice o.la o.ln o.lc, .slice o.fa o.fn o.fc] 25)).cell? ⟨w.heap.size + 1 + 1, 4, none⟩ = some (.slice A3 j c3) := (HHC.out _ (Only.refl _ _)).2.1.cell 4
      have HBY : Hid (j + 1 ≤ maxLen ∧ (j + 1) * 88 ≤ 140737488355328) := Lib.hid (by unfold maxLen; omega)
      have hLO : w.heap.size + 3 ≤ wr.heap.size := by have := HO1.out.lt; omega
      clear ho hx hax HVA hrow hall hlen
      go_upto_region 6 with fail
      go_region_law (first
          | (refine step_append_any _ (by rfl) (.tmp 19) (.tmp 22) 22 (by rfl) (w.heap.size + 3) 25 i0 _ 6 88 Tryd.underlying22 hi0 hz0 hz1 hz2 (by rfl) (by omega) (.slice A3 j c3) j (cells VC.vals Vs) (by rfl) HRW.out _ (some ⟨w2.heap.size, 0, none⟩) 1 1 v2.vals (by rfl) HRD.out HU.out HBY.out.1 HBY.out.2 HBB.out ?_; intro v4 w4 hown4 hgrow4 hat4; obtain ⟨A4, c4, rfl⟩ := own_form hown4; have HOW4 := Lib.hid hown4; have HG4 := Lib.hid hgrow4; have HAT4 := Lib.hid hat4; have HQE := Lib.hid (HHC.out w4 (((HQ2.out.mono (fun _ x => x.elim)).alloc _).trans (Only.of_grown hgrow4 (fun _ e => e)))); have heO : w4.cell? ⟨w.heap.size + 1 + 1, 4, none⟩ = some (.slice A3 j c3) := HQE.out.2.1.cell 4; have hfO : w4.frozen? ⟨w.heap.size + 1 + 1, 4, none⟩ = false := HQE.out.2.1.frozen 4; clear hown4 hgrow4 hat4)
          | (go_simp; go_at_call 37; refine (HIH.out o x S _ HXS.out (HAX.out _ ((Only.refl _ _).alloc _).drew)).mono ?_; rintro e w2 ⟨v2, rfl, hv2, ho2⟩; have HQ2 : Hid (Only Nobody (wr.alloc (.cells #[.int .i64 o.k, .int .i64 o.i, .int .i64 o.s, .string o.t, .slice o.la o.ln o.lc, .slice o.fa o.fn o.fc] 25)) w2) := Lib.hid ((Only.refl _ _).drew.trans ho2); have HD := Lib.hid (HHC.out w2 (HQ2.out.mono (fun _ x => x.elim))); have hdO : w2.cell? ⟨w.heap.size + 1 + 1, 4, none⟩ = some (.slice A3 j c3) := HD.out.2.1.cell 4; have HV2 : Hid (VAt w2 (fun b => wr.heap.size ≤ b) n v2 x) := Lib.hid (hv2.mono (fun b _ hb => Nat.le_trans (by simp) hb)); have HRW : Hid ((w2.alloc (.cells #[.int .i64 v2.k, .int .i64 v2.i, .int .i64 v2.s, .string v2.t, .slice v2.la v2.ln v2.lc, .slice v2.fa v2.fn v2.fc] 25)).ownsRow (w.heap.size + 3) 25 6 (.slice A3 j c3) j (cells VC.vals Vs)) := Lib.hid (HROW.out _ ((((Only.refl Nobody wr).alloc _).trans HQ2.out).alloc _)); have HRD : Hid (Reads (w2.alloc (.cells #[.int .i64 v2.k, .int .i64 v2.i, .int .i64 v2.s, .string v2.t, .slice v2.la v2.ln v2.lc, .slice v2.fa v2.fn v2.fc] 25)) (w2.heap.size + 1) 6 (some ⟨w2.heap.size, 0, none⟩) 1 v2.vals) := Lib.hid (reads_alloc w2 25 #[.int .i64 v2.k, .int .i64 v2.i, .int .i64 v2.s, .string v2.t, .slice v2.la v2.ln v2.lc, .slice v2.fa v2.fn v2.fc] 6 1 rfl); have HU := Lib.hid (one_v v2); have HBB : Hid (w.heap.size + 3 ≤ (w2.alloc (.cells #[.int .i64 v2.k, .int .i64 v2.i, .int .i64 v2.s, .string v2.t, .slice v2.la v2.ln v2.lc, .slice v2.fa v2.fn v2.fc] 25)).heap.size) := Lib.hid (by have := HQ2.out.size; simp at this ⊢; omega); have hwO : (w2.alloc (.cells #[.int .i64 v2.k, .int .i64 v2.i, .int .i64 v2.s, .string v2.t, .slice v2.la v2.ln v2.lc, .slice v2.fa v2.fn v2.fc] 25)).cell? ⟨w.heap.size + 1 + 1, 4, none⟩ = some (.slice A3 j c3) := (HHC.out (w2.alloc (.cells #[.int .i64 v2.k, .int .i64 v2.i, .int .i64 v2.s, .string v2.t, .slice v2.la v2.ln v2.lc, .slice v2.fa v2.fn v2.fc] 25)) ((HQ2.out.mono (fun _ x => x.elim)).alloc _)).2.1.cell 4; clear hv2 ho2))
      all_goals
        have HQ : Hid (Only (fun q => Value.ownBlock (.slice A3 j c3) = some q) wr w4) := Lib.hid ((((((Only.refl Nobody wr).alloc _).trans HQ2.out).alloc _).mono (fun _ x => x.elim)).trans (Only.of_grown HG4.out (fun _ e => e)))
        obtain ⟨wF, HWF⟩ : ∃ wF, Hid (wF = w4.setCell ⟨w.heap.size + 1 + 1, 4, none⟩ (.slice A4 (j + 1) c4)) := ⟨_, Lib.hid rfl⟩
        have HB1n : Hid (Blk wF w.heap.size 25 #[.int .i64 vk, .int .i64 vi, .int .i64 vs, .string vt, .slice (some ad) ln lc, .slice fa fn fc]) := Lib.hid (by
          rw [HWF.out]
          exact (HQ.out.blk HB1.out (fun e => by have := (HSB.out _ e).1; omega)).far (p := ⟨w.heap.size + 1 + 1, 4, none⟩) (by show w.heap.size ≠ w.heap.size + 1 + 1; omega) _)
        have HR1n : Hid (Blk wF (w.heap.size + 1) 25 #[.int .i64 0, .int .i64 0, .int .i64 0, .string ⟨#[]⟩, .slice none 0 0, .slice none 0 0]) := Lib.hid (by
          rw [HWF.out]
          exact (HQ.out.blk HR1.out (fun e => by have := (HSB.out _ e).1; omega)).far (p := ⟨w.heap.size + 1 + 1, 4, none⟩) (by show w.heap.size + 1 ≠ w.heap.size + 1 + 1; omega) _)
        have HO1n : Hid (Blk wF (w.heap.size + 1 + 1) 25 #[.int .i64 vk, .int .i64 vi, .int .i64 vs, .string vt, .slice A4 (j + 1) c4, .slice none 0 0]) := Lib.hid (by
          rw [HWF.out]
          exact HQE.out.2.1.set_ 4 _)
        have HONn : Hid (Only Nobody w wF) := Lib.hid (by
          rw [HWF.out]
          refine Only.setCell (HON.out.trans_more (HQ.out.mono (fun q e => .inr ?_))) (p := ⟨w.heap.size + 1 + 1, 4, none⟩) (.inr (by show w.heap.size ≤ w.heap.size + 1 + 1; omega)) _
          have := (HSB.out _ e).1
          omega)
        have HOWn : Hid (OwnV n wF (w.heap.size + 3) (.slice A4 (j + 1) c4) (T.l.take (j + 1))) := Lib.hid (by
          have h2 : All2 (RV n (w2.alloc (.cells #[.int .i64 v2.k, .int .i64 v2.i, .int .i64 v2.s, .string v2.t, .slice v2.la v2.ln v2.lc, .slice v2.fa v2.fn v2.fc] 25)) (fun b => w.heap.size + 3 ≤ b ∧ Value.ownBlock (.slice A3 j c3) ≠ some b)) Vs (T.l.take j) := HALL.out _ ((((Only.refl Nobody wr).alloc _).trans HQ2.out).alloc _)
          have h3 := OwnG.snoc (g := VC.vals) (k := 6) (t := 25) (rdV n) (b := x) h2 (VAt.same HV2.out ((Only.refl _ _).alloc _)) (fun q hq => ⟨Nat.le_trans hLO hq, fun e => by have := (HSB.out _ e).2; omega⟩) (by rw [HLEN.out]; exact HOW4.out) HG4.out HAT4.out
          rw [← take_next HX.out] at h3
          rw [HWF.out]
          exact OwnG.keep (rdV n) h3 ((Only.refl (fun b => b = w.heap.size + 1 + 1) w4).setCell (p := ⟨w.heap.size + 1 + 1, 4, none⟩) (.inl rfl) _) (fun b e => by omega))
        rw [← HWF.out]
        go_wp2_with fail
        go_roundw
        case rel => first | exact ⟨j + 1, _, by go_num, by omega, HB1n, HR1n, HO1n, HOWn, HONn⟩ | ((repeat apply Exists.intro); exact ⟨⟨j + 1, _, by go_num, by omega, HB1n, HR1n, HO1n, HOWn, HONn⟩, rfl⟩)
        case measure => simp [intOf]; omega
    · obtain rfl : j = ln := by omega
      have hlen : (T.l.take j).length = j := by rw [List.length_take, HTL.out]; omega
      have htk : T.l.take j = T.l := List.take_of_length_le (by rw [HTL.out]; exact Nat.le_refl _)
      obtain ⟨A3, c3, hsv⟩ := HOW.out.form
      rw [hlen] at hsv
      subst hsv
      have hcap := (HOW.out.cap).2
      obtain ⟨K, HK0⟩ : ∃ K, Hid (K = wr.heap.size) := ⟨_, Lib.hid rfl⟩
      have HLI : Hid (VRow wr (fun b => w.heap.size + 3 ≤ b ∧ b < K) n A3 j T.l) := Lib.hid (by
        have h0 := HOW.out
        rw [htk] at h0
        have hl : T.l.length = j := HTL.out
        rw [← hl] at h0
        obtain ⟨V0, h1, h2⟩ := OwnG.row vlen (by omega) (rdV n) h0
        rw [hl] at h1
        exact ⟨V0, h1.mono (fun b hb x => ⟨x, by rw [HK0.out]; exact hb⟩), h2.imp fun _ _ q => VAt.mono q (fun b hb x => ⟨x, by rw [HK0.out]; exact hb⟩)⟩)
      have HKL : Hid (w.heap.size + 3 ≤ K ∧ K ≤ wr.heap.size) := Lib.hid ⟨by rw [HK0.out]; have := HO1.out.lt; omega, by rw [HK0.out]; exact Nat.le_refl _⟩
      have q5 : wr.cell? ⟨w.heap.size, 5, none⟩ = some (.slice fa fn fc) := HB1.out.cell 5
      clear hlen htk HOW HK0
      go_wp2_with fail
      clear q5
      go_loopw [29] (fun i wx => ∃ (j2 : Nat) (sv : Value), i = .int .i64 (j2 : Int) ∧ j2 ≤ fn ∧ Hid (Blk wx (w.heap.size + 1) 25 #[.int .i64 0, .int .i64 0, .int .i64 0, .string ⟨#[]⟩, .slice none 0 0, .slice none 0 0]) ∧ Hid (Blk wx (w.heap.size + 1 + 1) 25 #[.int .i64 vk, .int .i64 vi, .int .i64 vs, .string vt, .slice A3 j c3, sv]) ∧ Hid (OwnF n wx K sv (T.f.take j2)) ∧ Hid (VRow wx (fun b => w.heap.size + 3 ≤ b ∧ b < K) n A3 j T.l) ∧ Hid (K ≤ wx.heap.size) ∧ Hid (Only Nobody w wx)) (fun i _ => fn - (intOf i).toNat)
      case atStart => exact ⟨0, _, rfl, Nat.zero_le _, HR1, HO1, Lib.hid OwnG.nil_, HLI, Lib.hid HKL.out.2, HON⟩
      case round =>
        clear HB1 HR1 HO1 HLI HON
        have HKK := Lib.hid HKL.out.1
        clear HKL hi0 hz0 hz1 hz2
        obtain ⟨j2, sv, rfl, hj2, HR1, HO1, HOW, HLI, HKL, HON⟩ := hrel
        obtain ⟨i0, hi0, hz0, hz1, hz2⟩ := info_parts infoF
        by_cases hjn : j2 < fn
        · have hjI : (j2 : Int) < (fn : Int) := by omega
          have hj0 : (0 : Int) ≤ (j2 : Int) := by omega
          obtain ⟨ad, rfl⟩ := HF.out.some_ (by omega)
          obtain ⟨o, ho⟩ := HF.out.get hjn
          obtain ⟨x, hx, hax⟩ := HB.out.get ho
          have HVA := HF.out
          obtain ⟨a0, a1, a2, a3, a4, a5, a6⟩ := (HVA.same HON.out).fat ho
          have HX := Lib.hid hx
          have HXN := Lib.hid hax.1
          have HXS : Hid (x.2.size ≤ 140737488351232) := Lib.hid (by have := sizeF_mem hx; have := size_f T; have := HSZ.out; omega)
          have HAX : Hid (∀ w', Only Nobody wr w' → VAt w' S n o.v x.2) := Lib.hid fun w' h => (hax.2.same (HON.out.trans h))
          have hlen : (T.f.take j2).length = j2 := by rw [List.length_take, HTF.out]; omega
          obtain ⟨A4, c4, hsv⟩ := HOW.out.form
          rw [hlen] at hsv
          subst hsv
          have HLEN := Lib.hid hlen
          obtain ⟨Vs, hrow, hall⟩ := HOW.out
          have HROW : Hid (∀ w', Only Nobody wr w' → w'.ownsRow K 72 7 (.slice A4 j2 c4) j2 (cells FC.vals Vs)) := Lib.hid fun w' h => by
            have := h.row hrow (fun _ _ x => x)
            rw [hlen] at this
            exact this
          have HALL : Hid (∀ w', Only Nobody wr w' → All2 (RF n w' (fun b => K ≤ b ∧ Value.ownBlock (.slice A4 j2 c4) ≠ some b)) Vs (T.f.take j2)) := Lib.hid fun w' h => hall.imp fun _ _ q => (rdF n).keep q h (fun _ _ x => x)
          have HSB : Hid (∀ b, Value.ownBlock (.slice A4 j2 c4) = some b → K ≤ b ∧ b < wr.heap.size) := Lib.hid hrow.lt
          have hKK := HKK.out
          have hKL := HKL.out
          have HOB : Hid (∀ w', Only (fun q => Value.ownBlock (.slice A4 j2 c4) = some q) (wr.alloc (.cells #[.string o.n, .int .i64 o.v.k, .int .i64 o.v.i, .int .i64 o.v.s, .string o.v.t, .slice o.v.la o.v.ln o.v.lc, .slice o.v.fa o.v.fn o.v.fc] 72)) w' → Blk w' (w.heap.size + 1 + 1) 25 #[.int .i64 vk, .int .i64 vi, .int .i64 vs, .string vt, .slice A3 j c3, .slice A4 j2 c4] ∧ Blk w' wr.heap.size 72 #[.string o.n, .int .i64 o.v.k, .int .i64 o.v.i, .int .i64 o.v.s, .string o.v.t, .slice o.v.la o.v.ln o.v.lc, .slice o.v.fa o.v.fn o.v.fc]) := Lib.hid fun w' h =>
            ⟨h.blk (HO1.out.alloc _) (fun e => by have := (HSB.out _ e).1; omega), h.blk (Blk.new wr 72 #[.string o.n, .int .i64 o.v.k, .int .i64 o.v.i, .int .i64 o.v.s, .string o.v.t, .slice o.v.la o.v.ln o.v.lc, .slice o.v.fa o.v.fn o.v.fc]) (fun e => by have := (HSB.out _ e).2; omega)⟩
          have HS0 := Lib.hid (HOB.out _ (Only.refl _ _))
          have x0 : (wr.alloc (.cells #[.string o.n, .int .i64 o.v.k, .int .i64 o.v.i, .int .i64 o.v.s, .string o.v.t, .slice o.v.la o.v.ln o.v.lc, .slice o.v.fa o.v.fn o.v.fc] 72)).cell? ⟨wr.heap.size, 0, none⟩ = some (.string o.n) := HS0.out.2.cell 0
          have x1 : (wr.alloc (.cells #[.string o.n, .int .i64 o.v.k, .int .i64 o.v.i, .int .i64 o.v.s, .string o.v.t, .slice o.v.la o.v.ln o.v.lc, .slice o.v.fa o.v.fn o.v.fc] 72)).cell? ⟨wr.heap.size, 1, none⟩ = some (.int .i64 o.v.k) := HS0.out.2.cell 1
          have x2 : (wr.alloc (.cells #[.string o.n, .int .i64 o.v.k, .int .i64 o.v.i, .int .i64 o.v.s, .string o.v.t, .slice o.v.la o.v.ln o.v.lc, .slice o.v.fa o.v.fn o.v.fc] 72)).cell? ⟨wr.heap.size, 2, none⟩ = some (.int .i64 o.v.i) := HS0.out.2.cell 2
          have x3 : (wr.alloc (.cells #[.string o.n, .int .i64 o.v.k, .int .i64 o.v.i, .int .i64 o.v.s, .string o.v.t, .slice o.v.la o.v.ln o.v.lc, .slice o.v.fa o.v.fn o.v.fc] 72)).cell? ⟨wr.heap.size, 3, none⟩ = some (.int .i64 o.v.s) := HS0.out.2.cell 3
          have x4 : (wr.alloc (.cells #[.string o.n, .int .i64 o.v.k, .int .i64 o.v.i, .int .i64 o.v.s, .string o.v.t, .slice o.v.la o.v.ln o.v.lc, .slice o.v.fa o.v.fn o.v.fc] 72)).cell? ⟨wr.heap.size, 4, none⟩ = some (.string o.v.t) := HS0.out.2.cell 4
          have x5 : (wr.alloc (.cells #[.string o.n, .int .i64 o.v.k, .int .i64 o.v.i, .int .i64 o.v.s, .string o.v.t, .slice o.v.la o.v.ln o.v.lc, .slice o.v.fa o.v.fn o.v.fc] 72)).cell? ⟨wr.heap.size, 5, none⟩ = some (.slice o.v.la o.v.ln o.v.lc) := HS0.out.2.cell 5
          have x6 : (wr.alloc (.cells #[.string o.n, .int .i64 o.v.k, .int .i64 o.v.i, .int .i64 o.v.s, .string o.v.t, .slice o.v.la o.v.ln o.v.lc, .slice o.v.fa o.v.fn o.v.fc] 72)).cell? ⟨wr.heap.size, 6, none⟩ = some (.slice o.v.fa o.v.fn o.v.fc) := HS0.out.2.cell 6
          have hcO : (wr.alloc (.cells #[.string o.n, .int .i64 o.v.k, .int .i64 o.v.i, .int .i64 o.v.s, .string o.v.t, .slice o.v.la o.v.ln o.v.lc, .slice o.v.fa o.v.fn o.v.fc] 72)).cell? ⟨w.heap.size + 1 + 1, 5, none⟩ = some (.slice A4 j2 c4) := HS0.out.1.cell 5
          have HBY : Hid (j2 + 1 ≤ maxLen ∧ (j2 + 1) * 104 ≤ 140737488355328) := Lib.hid (by unfold maxLen; omega)
          clear ho hx hax HVA hrow hall hlen
          go_upto_region 11 with fail
          go_region_law (first
            | (refine step_append_any _ (by rfl) (.tmp 34) (.tmp 41) 23 (by rfl) K 72 i0 _ 7 104 Tryd.underlying23 hi0 hz0 hz1 hz2 (by rfl) (by omega) (.slice A4 j2 c4) j2 (cells FC.vals Vs) (by rfl) HRW.out _ (some ⟨w2.heap.size, 0, none⟩) 1 1 (FC.vals ⟨o.n, v2⟩) (by rfl) HRD.out HU.out HBY.out.1 HBY.out.2 HBB.out ?_; intro v4 w4 hown4 hgrow4 hat4; obtain ⟨A5, c5, rfl⟩ := own_form hown4; have HOW4 := Lib.hid hown4; have HG4 := Lib.hid hgrow4; have HAT4 := Lib.hid hat4; have HQE := Lib.hid (HOB.out w4 (((HQ2.out.mono (fun _ x => x.elim)).alloc _).trans (Only.of_grown hgrow4 (fun _ e => e)))); have heO : w4.cell? ⟨w.heap.size + 1 + 1, 5, none⟩ = some (.slice A4 j2 c4) := HQE.out.1.cell 5; have hfO : w4.frozen? ⟨w.heap.size + 1 + 1, 5, none⟩ = false := HQE.out.1.frozen 5; clear hown4 hgrow4 hat4)
            | (go_simp; go_at_call 37; refine (HIH.out o.v x.2 S _ HXS.out (HAX.out _ ((Only.refl _ _).alloc _).drew)).mono ?_; rintro e w2 ⟨v2, rfl, hv2, ho2⟩; have HQ2 : Hid (Only Nobody (wr.alloc (.cells #[.string o.n, .int .i64 o.v.k, .int .i64 o.v.i, .int .i64 o.v.s, .string o.v.t, .slice o.v.la o.v.ln o.v.lc, .slice o.v.fa o.v.fn o.v.fc] 72)) w2) := Lib.hid ((Only.refl _ _).drew.trans ho2); have HD := Lib.hid (HOB.out w2 (HQ2.out.mono (fun _ x => x.elim))); have hd0 : w2.cell? ⟨wr.heap.size, 0, none⟩ = some (.string o.n) := HD.out.2.cell 0; have hdO : w2.cell? ⟨w.heap.size + 1 + 1, 5, none⟩ = some (.slice A4 j2 c4) := HD.out.1.cell 5; have HV2 : Hid (VAt w2 (fun b => wr.heap.size ≤ b) n v2 x.2) := Lib.hid (hv2.mono (fun b _ hb => Nat.le_trans (by simp) hb)); have HRW : Hid ((w2.alloc (.cells #[.string o.n, .int .i64 v2.k, .int .i64 v2.i, .int .i64 v2.s, .string v2.t, .slice v2.la v2.ln v2.lc, .slice v2.fa v2.fn v2.fc] 72)).ownsRow K 72 7 (.slice A4 j2 c4) j2 (cells FC.vals Vs)) := Lib.hid (HROW.out _ ((((Only.refl Nobody wr).alloc _).trans HQ2.out).alloc _)); have HRD : Hid (Reads (w2.alloc (.cells #[.string o.n, .int .i64 v2.k, .int .i64 v2.i, .int .i64 v2.s, .string v2.t, .slice v2.la v2.ln v2.lc, .slice v2.fa v2.fn v2.fc] 72)) (w2.heap.size + 1) 7 (some ⟨w2.heap.size, 0, none⟩) 1 (FC.vals ⟨o.n, v2⟩)) := Lib.hid (reads_alloc w2 72 #[.string o.n, .int .i64 v2.k, .int .i64 v2.i, .int .i64 v2.s, .string v2.t, .slice v2.la v2.ln v2.lc, .slice v2.fa v2.fn v2.fc] 7 1 rfl); have HU := Lib.hid (one_f ⟨o.n, v2⟩); have HBB : Hid (K ≤ (w2.alloc (.cells #[.string o.n, .int .i64 v2.k, .int .i64 v2.i, .int .i64 v2.s, .string v2.t, .slice v2.la v2.ln v2.lc, .slice v2.fa v2.fn v2.fc] 72)).heap.size) := Lib.hid (by have := HQ2.out.size; simp at this ⊢; omega); have hwO : (w2.alloc (.cells #[.string o.n, .int .i64 v2.k, .int .i64 v2.i, .int .i64 v2.s, .string v2.t, .slice v2.la v2.ln v2.lc, .slice v2.fa v2.fn v2.fc] 72)).cell? ⟨w.heap.size + 1 + 1, 5, none⟩ = some (.slice A4 j2 c4) := (HOB.out (w2.alloc (.cells #[.string o.n, .int .i64 v2.k, .int .i64 v2.i, .int .i64 v2.s, .string v2.t, .slice v2.la v2.ln v2.lc, .slice v2.fa v2.fn v2.fc] 72)) ((HQ2.out.mono (fun _ x => x.elim)).alloc _)).1.cell 5; clear hv2 ho2))
          all_goals
            have HQ : Hid (Only (fun q => Value.ownBlock (.slice A4 j2 c4) = some q) wr w4) := Lib.hid ((((((Only.refl Nobody wr).alloc _).trans HQ2.out).alloc _).mono (fun _ x => x.elim)).trans (Only.of_grown HG4.out (fun _ e => e)))
            obtain ⟨wF, HWF⟩ : ∃ wF, Hid (wF = w4.setCell ⟨w.heap.size + 1 + 1, 5, none⟩ (.slice A5 (j2 + 1) c5)) := ⟨_, Lib.hid rfl⟩
            have HR1n : Hid (Blk wF (w.heap.size + 1) 25 #[.int .i64 0, .int .i64 0, .int .i64 0, .string ⟨#[]⟩, .slice none 0 0, .slice none 0 0]) := Lib.hid (by
              rw [HWF.out]
              exact (HQ.out.blk HR1.out (fun e => by have := (HSB.out _ e).1; omega)).far (p := ⟨w.heap.size + 1 + 1, 5, none⟩) (by show w.heap.size + 1 ≠ w.heap.size + 1 + 1; omega) _)
            have HO1n : Hid (Blk wF (w.heap.size + 1 + 1) 25 #[.int .i64 vk, .int .i64 vi, .int .i64 vs, .string vt, .slice A3 j c3, .slice A5 (j2 + 1) c5]) := Lib.hid (by
              rw [HWF.out]
              exact HQE.out.1.set_ 5 _)
            have HONn : Hid (Only Nobody w wF) := Lib.hid (by
              rw [HWF.out]
              refine Only.setCell (HON.out.trans_more (HQ.out.mono (fun q e => .inr ?_))) (p := ⟨w.heap.size + 1 + 1, 5, none⟩) (.inr (by show w.heap.size ≤ w.heap.size + 1 + 1; omega)) _
              have := (HSB.out _ e).1
              omega)
            have HLIn : Hid (VRow wF (fun b => w.heap.size + 3 ≤ b ∧ b < K) n A3 j T.l) := Lib.hid (by
              rw [HWF.out]
              exact (HLI.out.keep HQ.out (fun b hb e => by have := (HSB.out _ e).1; omega)).keep ((Only.refl (fun b => b = w.heap.size + 1 + 1) w4).setCell (p := ⟨w.heap.size + 1 + 1, 5, none⟩) (.inl rfl) _) (fun b hb e => by omega))
            have HKLn : Hid (K ≤ wF.heap.size) := Lib.hid (by
              rw [HWF.out]
              have := HQ.out.size
              show K ≤ (w4.setCell _ _).heap.size
              simp [World.setCell]
              omega)
            have HOWn : Hid (OwnF n wF K (.slice A5 (j2 + 1) c5) (T.f.take (j2 + 1))) := Lib.hid (by
              have h2 : All2 (RF n (w2.alloc (.cells #[.string o.n, .int .i64 v2.k, .int .i64 v2.i, .int .i64 v2.s, .string v2.t, .slice v2.la v2.ln v2.lc, .slice v2.fa v2.fn v2.fc] 72)) (fun b => K ≤ b ∧ Value.ownBlock (.slice A4 j2 c4) ≠ some b)) Vs (T.f.take j2) := HALL.out _ ((((Only.refl Nobody wr).alloc _).trans HQ2.out).alloc _)
              have h3 := OwnG.snoc (g := FC.vals) (k := 7) (t := 72) (rdF n) (a := ⟨o.n, v2⟩) (b := x) h2 ⟨HXN.out, VAt.same HV2.out ((Only.refl _ _).alloc _)⟩ (fun q hq => ⟨Nat.le_trans hKL hq, fun e => by have := (HSB.out _ e).2; omega⟩) (by rw [HLEN.out]; exact HOW4.out) HG4.out HAT4.out
              rw [← take_next HX.out] at h3
              rw [HWF.out]
              exact OwnG.keep (rdF n) h3 ((Only.refl (fun b => b = w.heap.size + 1 + 1) w4).setCell (p := ⟨w.heap.size + 1 + 1, 5, none⟩) (.inl rfl) _) (fun b e => by omega))
            rw [← HWF.out]
            go_wp2_with fail
            go_roundw
            case rel => first | exact ⟨j2 + 1, _, by go_num, by omega, HR1n, HO1n, HOWn, HLIn, HKLn, HONn⟩ | ((repeat apply Exists.intro); exact ⟨⟨j2 + 1, _, by go_num, by omega, HR1n, HO1n, HOWn, HLIn, HKLn, HONn⟩, rfl⟩)
            case measure => simp [intOf]; omega
        · obtain rfl : j2 = fn := by omega
          have hlen : (T.f.take j2).length = j2 := by rw [List.length_take, HTF.out]; omega
          have htk : T.f.take j2 = T.f := List.take_of_length_le (by rw [HTF.out]; exact Nat.le_refl _)
          obtain ⟨A4, c4, hsv⟩ := HOW.out.form
          rw [hlen] at hsv
          subst hsv
          have hcap2 := (HOW.out.cap).2
          have HFI : Hid (∃ G, RowA FC.vals 7 wr (fun b => K ≤ b) A4 j2 G ∧ All2 (RF n wr (fun b => K ≤ b)) G T.f) := Lib.hid (by
            have h0 := HOW.out
            rw [htk] at h0
            have hl : T.f.length = j2 := HTF.out
            rw [← hl] at h0
            obtain ⟨V0, h1, h2⟩ := OwnG.row flen (by omega) (rdF n) h0
            rw [hl] at h1
            exact ⟨V0, h1, h2⟩)
          have o0 : wr.cell? ⟨w.heap.size + 1 + 1, 0, none⟩ = some (.int .i64 vk) := HO1.out.cell 0
          have o1 : wr.cell? ⟨w.heap.size + 1 + 1, 1, none⟩ = some (.int .i64 vi) := HO1.out.cell 1
          have o2 : wr.cell? ⟨w.heap.size + 1 + 1, 2, none⟩ = some (.int .i64 vs) := HO1.out.cell 2
          have o3 : wr.cell? ⟨w.heap.size + 1 + 1, 3, none⟩ = some (.string vt) := HO1.out.cell 3
          have o4 : wr.cell? ⟨w.heap.size + 1 + 1, 4, none⟩ = some (.slice A3 j c3) := HO1.out.cell 4
          have o5 : wr.cell? ⟨w.heap.size + 1 + 1, 5, none⟩ = some (.slice A4 j2 c4) := HO1.out.cell 5
          have r0 : wr.cell? ⟨w.heap.size + 1, 0, none⟩ = some (.int .i64 0) := HR1.out.cell 0
          have f0 : wr.frozen? ⟨w.heap.size + 1, 0, none⟩ = false := HR1.out.frozen 0
          have r1 : wr.cell? ⟨w.heap.size + 1, 1, none⟩ = some (.int .i64 0) := HR1.out.cell 1
          have f1 : wr.frozen? ⟨w.heap.size + 1, 1, none⟩ = false := HR1.out.frozen 1
          have r2 : wr.cell? ⟨w.heap.size + 1, 2, none⟩ = some (.int .i64 0) := HR1.out.cell 2
          have f2 : wr.frozen? ⟨w.heap.size + 1, 2, none⟩ = false := HR1.out.frozen 2
          have r3 : wr.cell? ⟨w.heap.size + 1, 3, none⟩ = some (.string ⟨#[]⟩) := HR1.out.cell 3
          have f3 : wr.frozen? ⟨w.heap.size + 1, 3, none⟩ = false := HR1.out.frozen 3
          have r4 : wr.cell? ⟨w.heap.size + 1, 4, none⟩ = some (.slice none 0 0) := HR1.out.cell 4
          have f4 : wr.frozen? ⟨w.heap.size + 1, 4, none⟩ = false := HR1.out.frozen 4
          have r5 : wr.cell? ⟨w.heap.size + 1, 5, none⟩ = some (.slice none 0 0) := HR1.out.cell 5
          have f5 : wr.frozen? ⟨w.heap.size + 1, 5, none⟩ = false := HR1.out.frozen 5
          have HFAR : Hid (∀ wE, Only (fun b => b = w.heap.size + 1) wr wE → CloPost (n + 1) T w (.returned (.agg #[.int .i64 vk, .int .i64 vi, .int .i64 vs, .string vt, .slice A3 j c3, .slice A4 j2 c4])) wE) := Lib.hid fun wE hE => by
            refine ⟨⟨vk, vi, vs, vt, A3, j, c3, A4, j2, c4⟩, rfl, ?_, HON.out.trans_more (hE.mono (fun b e => .inr (by omega)))⟩
            obtain ⟨V0, h1, h2⟩ := HLI.out
            obtain ⟨V1, h3, h4⟩ := HFI.out
            obtain ⟨k1, k2, k3, k4⟩ := HK.out
            have hk := HKK.out
            refine ⟨⟨k1, k2, k3, k4, hcap, hcap2⟩, ⟨V0, (h1.keep hE (fun b hb e => by omega)).mono (fun b _ x => by omega), h2.imp fun _ _ q => VAt.mono (VAt.keep q hE (fun b hb e => by omega)) (fun b _ x => by omega)⟩, ⟨V1, (h3.keep hE (fun b hb e => by omega)).mono (fun b _ x => by omega), h4.imp fun _ _ q => ⟨q.1, VAt.mono (VAt.keep q.2 hE (fun b hb e => by omega)) (fun b _ x => by omega)⟩⟩⟩
          clear hlen htk
          go_wp2_with fail
          exact bodyPost_ret (v := .agg #[.int .i64 vk, .int .i64 vi, .int .i64 vs, .string vt, .slice A3 j c3, .slice A4 j2 c4]) (by simp [results, Tryd.results37, go_sem, r0, r1, r2, r3, r4, r5]) rfl (HFAR.out _ (((((((Only.refl (fun b => b = w.heap.size + 1) wr).setCell (p := ⟨w.heap.size + 1, 0, none⟩) (.inl rfl) _).setCell (p := ⟨w.heap.size + 1, 1, none⟩) (.inl rfl) _).setCell (p := ⟨w.heap.size + 1, 2, none⟩) (.inl rfl) _).setCell (p := ⟨w.heap.size + 1, 3, none⟩) (.inl rfl) _).setCell (p := ⟨w.heap.size + 1, 4, none⟩) (.inl rfl) _).setCell (p := ⟨w.heap.size + 1, 5, none⟩) (.inl rfl) _))
/-- value.Clone returns a value in new memory that reads as the same tree. -/
theorem clone_any : ∀ n, CloneOk n
  | 0 => fun _ _ _ _ _ h => h.elim
  | n + 1 => clone_step n (clone_any n)
end Go.Proofs.YtdccckoelnnnoaaDoor
