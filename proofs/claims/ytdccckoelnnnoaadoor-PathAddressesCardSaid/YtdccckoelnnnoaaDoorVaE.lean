/- Values: the reference's Same at equal trees. (printed by gen_vae.py) -/
import Derived.Test.YtdccckoelnnnoaaDoorVaS
import Derived.Deep.RegionHeld3
namespace Go.Proofs.YtdccckoelnnnoaaDoor
open Go.RowKit
attribute [local go_sem ↓] Go.wp_at_zero Go.wp_at_succ

def SameOk (n : Nat) : Prop := ∀ (a b : VC) (T : VT) (S S' : Nat → Prop) (w : World), T.size ≤ 140737488351232 → VAt w S n a T → VAt w S' n b T → Calls Tryd.prog 14 #[.agg #[.int .i64 a.k, .int .i64 a.i, .int .i64 a.s, .string a.t, .slice a.la a.ln a.lc, .slice a.fa a.fn a.fc], .agg #[.int .i64 b.k, .int .i64 b.i, .int .i64 b.s, .string b.t, .slice b.la b.ln b.lc, .slice b.fa b.fn b.fc]] w fun e w' => e = .returned (.bool true) ∧ Only Nobody w w'
set_option maxRecDepth 100000 in
set_option maxHeartbeats 16000000 in
theorem same_step (n : Nat) (ih : SameOk n) : SameOk (n + 1) := by
  intro a b T S S' w hsz h h'
  obtain ⟨vk, vi, vs, vt, la, ln, lc, fa, fn, fc⟩ := a
  obtain ⟨vk', vi', vs', vt', lb, ln', mc, fb, fn', gc⟩ := b
  obtain ⟨⟨hk, hi, hs, ht, _, _⟩, ⟨V, hV, hA⟩, ⟨F, hF, hB⟩⟩ := h
  obtain ⟨⟨hk', hi', hs', ht', _, _⟩, ⟨V', hV', hA'⟩, ⟨F', hF', hB'⟩⟩ := h'
  dsimp only at hV hF hV' hF' hk hi hs ht hk' hi' hs' ht' ⊢
  obtain rfl : vk = vk' := by rw [hk, hk']
  obtain rfl : vi = vi' := by rw [hi, hi']
  obtain rfl : vs = vs' := by rw [hs, hs']
  obtain rfl : vt = vt' := by rw [ht, ht']
  obtain rfl : ln = ln' := by rw [← hV.len, hA.1, ← hV'.len, hA'.1]
  obtain rfl : fn = fn' := by rw [← hF.len, hB.1, ← hF'.len, hB'.1]
  clear hk hi hs ht hk' hi' hs' ht'
  have HV := Lib.hid hV
  have HA := Lib.hid hA
  have HF := Lib.hid hF
  have HB := Lib.hid hB
  have HV2 := Lib.hid hV'
  have HA2 := Lib.hid hA'
  have HF2 := Lib.hid hF'
  have HB2 := Lib.hid hB'
  have HSZ := Lib.hid hsz
  have HIH := Lib.hid ih
  have HTL : Hid (T.l.length = ln) := Lib.hid (by rw [← hA.1, hV.len])
  have HTF : Hid (T.f.length = fn) := Lib.hid (by rw [← hB.1, hF.len])
  have hln : ln ≤ 1599289640355 := by rw [← HTL.out]; have := sizeL_len T.l; have := size_l T; omega
  have hfn : fn ≤ 1353245080300 := by rw [← HTF.out]; have := sizeF_len T.f; have := size_f T; omega
  obtain ⟨W0, HW0⟩ : ∃ W0, Hid (W0 = (w.alloc (.cells #[.int .i64 vk, .int .i64 vi, .int .i64 vs, .string vt, .slice la ln lc, .slice fa fn fc] 25)).alloc (.cells #[.int .i64 vk, .int .i64 vi, .int .i64 vs, .string vt, .slice lb ln mc, .slice fb fn gc] 25)) := ⟨_, Lib.hid rfl⟩
  have HBA : Hid (Blk W0 w.heap.size 25 #[.int .i64 vk, .int .i64 vi, .int .i64 vs, .string vt, .slice la ln lc, .slice fa fn fc]) := Lib.hid (by rw [HW0.out]; exact (Blk.new _ _ _).alloc _)
  have HBB : Hid (Blk W0 (w.heap.size + 1) 25 #[.int .i64 vk, .int .i64 vi, .int .i64 vs, .string vt, .slice lb ln mc, .slice fb fn gc]) := Lib.hid (by
    rw [HW0.out]
    have := Blk.new (w.alloc (.cells #[.int .i64 vk, .int .i64 vi, .int .i64 vs, .string vt, .slice la ln lc, .slice fa fn fc] 25)) 25 #[.int .i64 vk, .int .i64 vi, .int .i64 vs, .string vt, .slice lb ln mc, .slice fb fn gc]
    simpa using this)
  have HO0 : Hid (Only Nobody w W0) := Lib.hid (by rw [HW0.out]; exact ((Only.refl _ _).alloc _).alloc _)
  have htt : (vt.toList != vt.toList) = false := by simp
  have hkk : (vk != vk) = false := by simp
  have hii : (vi != vi) = false := by simp
  have hss : (vs != vs) = false := by simp
  clear hV hA hF hB hV' hA' hF' hB' hsz ih
  go_enter Tryd.func14, Tryd.ntmps14
  go_wp2_with fail
  rw [← HW0.out]
  go_loopw [5] (fun i wx => ∃ j : Nat, i = .int .i64 (j : Int) ∧ j ≤ ln ∧ Hid (Only Nobody W0 wx)) (fun i _ => ln - (intOf i).toNat)
  case atStart => exact ⟨0, rfl, Nat.zero_le _, Lib.hid (Only.refl _ _)⟩
  case round =>
    obtain ⟨j, rfl, hj, HON⟩ := hrel
    have hj0 : (0 : Int) ≤ (j : Int) := by omega
    have HBLA := Lib.hid (HON.out.blk HBA.out (fun x => x))
    have HBLB := Lib.hid (HON.out.blk HBB.out (fun x => x))
    have b4 : wr.cell? ⟨w.heap.size, 4, none⟩ = some (.slice la ln lc) := HBLA.out.cell 4
    have d4 : wr.cell? ⟨w.heap.size + 1, 4, none⟩ = some (.slice lb ln mc) := HBLB.out.cell 4
    by_cases hjn : j < ln
    · have hjI : (j : Int) < (ln : Int) := by omega
      obtain ⟨ad, rfl⟩ := HV.out.some_ (by omega)
      obtain ⟨bd, rfl⟩ := HV2.out.some_ (by omega)
      obtain ⟨o, ho⟩ := HV.out.get hjn
      obtain ⟨x, hx, hax⟩ := HA.out.get ho
      obtain ⟨o2, ho2, hax2⟩ := HA2.out.get' hx
      have HX := Lib.hid hx
      have HXS : Hid (x.size ≤ 140737488351232) := Lib.hid (by have := sizeL_mem hx; have := size_l T; have := HSZ.out; omega)
      have HAX : Hid (∀ w', Only Nobody wr w' → VAt w' S n o x) := Lib.hid fun w' h => hax.same ((HO0.out.trans HON.out).trans h)
      have HAX2 : Hid (∀ w', Only Nobody wr w' → VAt w' S' n o2 x) := Lib.hid fun w' h => hax2.same ((HO0.out.trans HON.out).trans h)
      have HHC : Hid (∀ w', Only Nobody wr w' → w'.cell? ⟨w.heap.size, 4, none⟩ = some (.slice (some ad) ln lc) ∧ w'.cell? ⟨w.heap.size + 1, 4, none⟩ = some (.slice (some bd) ln mc) ∧ w'.cell? (ad.add (j * 6)) = some (.int .i64 o.k) ∧ w'.cell? ⟨(ad.add (j * 6)).block, (ad.add (j * 6)).off + 1, none⟩ = some (.int .i64 o.i) ∧ w'.cell? ⟨(ad.add (j * 6)).block, (ad.add (j * 6)).off + 2, none⟩ = some (.int .i64 o.s) ∧ w'.cell? ⟨(ad.add (j * 6)).block, (ad.add (j * 6)).off + 3, none⟩ = some (.string o.t) ∧ w'.cell? ⟨(ad.add (j * 6)).block, (ad.add (j * 6)).off + 4, none⟩ = some (.slice o.la o.ln o.lc) ∧ w'.cell? ⟨(ad.add (j * 6)).block, (ad.add (j * 6)).off + 5, none⟩ = some (.slice o.fa o.fn o.fc) ∧ w'.cell? (bd.add (j * 6)) = some (.int .i64 o2.k) ∧ w'.cell? ⟨(bd.add (j * 6)).block, (bd.add (j * 6)).off + 1, none⟩ = some (.int .i64 o2.i) ∧ w'.cell? ⟨(bd.add (j * 6)).block, (bd.add (j * 6)).off + 2, none⟩ = some (.int .i64 o2.s) ∧ w'.cell? ⟨(bd.add (j * 6)).block, (bd.add (j * 6)).off + 3, none⟩ = some (.string o2.t) ∧ w'.cell? ⟨(bd.add (j * 6)).block, (bd.add (j * 6)).off + 4, none⟩ = some (.slice o2.la o2.ln o2.lc) ∧ w'.cell? ⟨(bd.add (j * 6)).block, (bd.add (j * 6)).off + 5, none⟩ = some (.slice o2.fa o2.fn o2.fc)) := Lib.hid fun w' h => by
        have h1 := (HV.out.same ((HO0.out.trans HON.out).trans h)).vat ho
        have h2 := (HV2.out.same ((HO0.out.trans HON.out).trans h)).vat ho2
        exact ⟨(h.blk HBLA.out (fun x => x)).cell 4, (h.blk HBLB.out (fun x => x)).cell 4, h1.c0, h1.c1, h1.c2, h1.c3, h1.c4, h1.c5, h2.c0, h2.c1, h2.c2, h2.c3, h2.c4, h2.c5⟩
      have hcc := HHC.out wr (Only.refl _ _)
      clear ho hx hax ho2 hax2
      go_upto_region 6 with fail
      go_region_held3 (fun w' => w'.cell? ⟨w.heap.size, 4, none⟩ = some (.slice (some ad) ln lc) ∧ w'.cell? ⟨w.heap.size + 1, 4, none⟩ = some (.slice (some bd) ln mc) ∧ w'.cell? (ad.add (j * 6)) = some (.int .i64 o.k) ∧ w'.cell? ⟨(ad.add (j * 6)).block, (ad.add (j * 6)).off + 1, none⟩ = some (.int .i64 o.i) ∧ w'.cell? ⟨(ad.add (j * 6)).block, (ad.add (j * 6)).off + 2, none⟩ = some (.int .i64 o.s) ∧ w'.cell? ⟨(ad.add (j * 6)).block, (ad.add (j * 6)).off + 3, none⟩ = some (.string o.t) ∧ w'.cell? ⟨(ad.add (j * 6)).block, (ad.add (j * 6)).off + 4, none⟩ = some (.slice o.la o.ln o.lc) ∧ w'.cell? ⟨(ad.add (j * 6)).block, (ad.add (j * 6)).off + 5, none⟩ = some (.slice o.fa o.fn o.fc) ∧ w'.cell? (bd.add (j * 6)) = some (.int .i64 o2.k) ∧ w'.cell? ⟨(bd.add (j * 6)).block, (bd.add (j * 6)).off + 1, none⟩ = some (.int .i64 o2.i) ∧ w'.cell? ⟨(bd.add (j * 6)).block, (bd.add (j * 6)).off + 2, none⟩ = some (.int .i64 o2.s) ∧ w'.cell? ⟨(bd.add (j * 6)).block, (bd.add (j * 6)).off + 3, none⟩ = some (.string o2.t) ∧ w'.cell? ⟨(bd.add (j * 6)).block, (bd.add (j * 6)).off + 4, none⟩ = some (.slice o2.la o2.ln o2.lc) ∧ w'.cell? ⟨(bd.add (j * 6)).block, (bd.add (j * 6)).off + 5, none⟩ = some (.slice o2.fa o2.fn o2.fc))
        (first | exact hcc | exact hcd | exact HHC.out _ (by repeat (first | exact Only.refl _ _ | refine Only.drew ?_ | refine Only.alloc ?_ _)))
        (first | (go_at_call 14; refine (HIH.out o o2 x S S' _ HXS.out (HAX.out _ (by repeat (first | exact Only.refl _ _ | refine Only.drew ?_ | refine Only.alloc ?_ _))) (HAX2.out _ (by repeat (first | exact Only.refl _ _ | refine Only.drew ?_ | refine Only.alloc ?_ _)))).mono ?_; rintro e w2 ⟨rfl, ho⟩; have HO2 : Hid (Only Nobody wr w2) := Lib.hid (Only.trans (by repeat (first | exact Only.refl _ _ | refine Only.drew ?_ | refine Only.alloc ?_ _)) ho); have hcd := HHC.out w2 HO2.out; clear ho))
      all_goals
        have HOn := Lib.hid (HON.out.trans HO2.out)
        go_wp2_with fail
        go_roundw
        case rel => first | exact ⟨j + 1, by go_num, by omega, HOn⟩ | ((repeat apply Exists.intro); exact ⟨⟨j + 1, by go_num, by omega, HOn⟩, rfl⟩)
        case measure => simp [intOf]; omega
    · obtain rfl : j = ln := by omega
      go_wp2_with fail
      obtain ⟨wl, rfl⟩ : ∃ wl : World, wl = wr := ⟨_, rfl⟩
      clear b4 d4
      go_loopw [6] (fun i wx => ∃ k : Nat, i = .int .i64 (k : Int) ∧ k ≤ fn ∧ Hid (Only Nobody W0 wx)) (fun i _ => fn - (intOf i).toNat)
      case atStart => exact ⟨0, rfl, Nat.zero_le _, HON⟩
      case round =>
        clear HON HBLA HBLB
        obtain ⟨k, rfl, hk, HON⟩ := hrel
        have hk0 : (0 : Int) ≤ (k : Int) := by omega
        have HBLA := Lib.hid (HON.out.blk HBA.out (fun x => x))
        have HBLB := Lib.hid (HON.out.blk HBB.out (fun x => x))
        have b5 : wr.cell? ⟨w.heap.size, 5, none⟩ = some (.slice fa fn fc) := HBLA.out.cell 5
        have d5 : wr.cell? ⟨w.heap.size + 1, 5, none⟩ = some (.slice fb fn gc) := HBLB.out.cell 5
        by_cases hkn : k < fn
        · have hkI : (k : Int) < (fn : Int) := by omega
          obtain ⟨ad, rfl⟩ := HF.out.some_ (by omega)
          obtain ⟨bd, rfl⟩ := HF2.out.some_ (by omega)
          obtain ⟨o, ho⟩ := HF.out.get hkn
          obtain ⟨x, hx, hax⟩ := HB.out.get ho
          obtain ⟨o2, ho2, hax2⟩ := HB2.out.get' hx
          have HXS : Hid (x.2.size ≤ 140737488351232) := Lib.hid (by have := sizeF_mem hx; have := size_f T; have := HSZ.out; omega)
          have HAX : Hid (∀ w', Only Nobody wr w' → VAt w' S n o.v x.2) := Lib.hid fun w' h => hax.2.same ((HO0.out.trans HON.out).trans h)
          have HAX2 : Hid (∀ w', Only Nobody wr w' → VAt w' S' n o2.v x.2) := Lib.hid fun w' h => hax2.2.same ((HO0.out.trans HON.out).trans h)
          have hnm : o.n = o2.n := by rw [hax.1, hax2.1]
          obtain ⟨on, ov⟩ := o
          obtain ⟨on2, ov2⟩ := o2
          dsimp only at hnm HAX HAX2
          subst hnm
          have hnn : (on.toList != on.toList) = false := by simp
          have HHC : Hid (∀ w', Only Nobody wr w' → w'.cell? ⟨w.heap.size, 5, none⟩ = some (.slice (some ad) fn fc) ∧ w'.cell? ⟨w.heap.size + 1, 5, none⟩ = some (.slice (some bd) fn gc) ∧ w'.cell? (ad.add (k * 7)) = some (.string on) ∧ w'.cell? ⟨(ad.add (k * 7)).block, (ad.add (k * 7)).off + 1, none⟩ = some (.int .i64 ov.k) ∧ w'.cell? ⟨(ad.add (k * 7)).block, (ad.add (k * 7)).off + 2, none⟩ = some (.int .i64 ov.i) ∧ w'.cell? ⟨(ad.add (k * 7)).block, (ad.add (k * 7)).off + 3, none⟩ = some (.int .i64 ov.s) ∧ w'.cell? ⟨(ad.add (k * 7)).block, (ad.add (k * 7)).off + 4, none⟩ = some (.string ov.t) ∧ w'.cell? ⟨(ad.add (k * 7)).block, (ad.add (k * 7)).off + 5, none⟩ = some (.slice ov.la ov.ln ov.lc) ∧ w'.cell? ⟨(ad.add (k * 7)).block, (ad.add (k * 7)).off + 6, none⟩ = some (.slice ov.fa ov.fn ov.fc) ∧ w'.cell? (bd.add (k * 7)) = some (.string on) ∧ w'.cell? ⟨(bd.add (k * 7)).block, (bd.add (k * 7)).off + 1, none⟩ = some (.int .i64 ov2.k) ∧ w'.cell? ⟨(bd.add (k * 7)).block, (bd.add (k * 7)).off + 2, none⟩ = some (.int .i64 ov2.i) ∧ w'.cell? ⟨(bd.add (k * 7)).block, (bd.add (k * 7)).off + 3, none⟩ = some (.int .i64 ov2.s) ∧ w'.cell? ⟨(bd.add (k * 7)).block, (bd.add (k * 7)).off + 4, none⟩ = some (.string ov2.t) ∧ w'.cell? ⟨(bd.add (k * 7)).block, (bd.add (k * 7)).off + 5, none⟩ = some (.slice ov2.la ov2.ln ov2.lc) ∧ w'.cell? ⟨(bd.add (k * 7)).block, (bd.add (k * 7)).off + 6, none⟩ = some (.slice ov2.fa ov2.fn ov2.fc)) := Lib.hid fun w' h => by
            have h1 := (HF.out.same ((HO0.out.trans HON.out).trans h)).fat ho
            have h2 := (HF2.out.same ((HO0.out.trans HON.out).trans h)).fat ho2
            exact ⟨(h.blk HBLA.out (fun x => x)).cell 5, (h.blk HBLB.out (fun x => x)).cell 5, h1.c0, h1.c1, h1.c2, h1.c3, h1.c4, h1.c5, h1.c6, h2.c0, h2.c1, h2.c2, h2.c3, h2.c4, h2.c5, h2.c6⟩
          have hcc := HHC.out wr (Only.refl _ _)
          clear ho hx hax ho2 hax2
          go_upto_region 11 with fail
          go_region_held3 (fun w' => w'.cell? ⟨w.heap.size, 5, none⟩ = some (.slice (some ad) fn fc) ∧ w'.cell? ⟨w.heap.size + 1, 5, none⟩ = some (.slice (some bd) fn gc) ∧ w'.cell? (ad.add (k * 7)) = some (.string on) ∧ w'.cell? ⟨(ad.add (k * 7)).block, (ad.add (k * 7)).off + 1, none⟩ = some (.int .i64 ov.k) ∧ w'.cell? ⟨(ad.add (k * 7)).block, (ad.add (k * 7)).off + 2, none⟩ = some (.int .i64 ov.i) ∧ w'.cell? ⟨(ad.add (k * 7)).block, (ad.add (k * 7)).off + 3, none⟩ = some (.int .i64 ov.s) ∧ w'.cell? ⟨(ad.add (k * 7)).block, (ad.add (k * 7)).off + 4, none⟩ = some (.string ov.t) ∧ w'.cell? ⟨(ad.add (k * 7)).block, (ad.add (k * 7)).off + 5, none⟩ = some (.slice ov.la ov.ln ov.lc) ∧ w'.cell? ⟨(ad.add (k * 7)).block, (ad.add (k * 7)).off + 6, none⟩ = some (.slice ov.fa ov.fn ov.fc) ∧ w'.cell? (bd.add (k * 7)) = some (.string on) ∧ w'.cell? ⟨(bd.add (k * 7)).block, (bd.add (k * 7)).off + 1, none⟩ = some (.int .i64 ov2.k) ∧ w'.cell? ⟨(bd.add (k * 7)).block, (bd.add (k * 7)).off + 2, none⟩ = some (.int .i64 ov2.i) ∧ w'.cell? ⟨(bd.add (k * 7)).block, (bd.add (k * 7)).off + 3, none⟩ = some (.int .i64 ov2.s) ∧ w'.cell? ⟨(bd.add (k * 7)).block, (bd.add (k * 7)).off + 4, none⟩ = some (.string ov2.t) ∧ w'.cell? ⟨(bd.add (k * 7)).block, (bd.add (k * 7)).off + 5, none⟩ = some (.slice ov2.la ov2.ln ov2.lc) ∧ w'.cell? ⟨(bd.add (k * 7)).block, (bd.add (k * 7)).off + 6, none⟩ = some (.slice ov2.fa ov2.fn ov2.fc))
            (first | exact hcc | exact hcd | exact HHC.out _ (by repeat (first | exact Only.refl _ _ | refine Only.drew ?_ | refine Only.alloc ?_ _)))
            (first | (go_at_call 14; refine (HIH.out ov ov2 x.2 S S' _ HXS.out (HAX.out _ (by repeat (first | exact Only.refl _ _ | refine Only.drew ?_ | refine Only.alloc ?_ _))) (HAX2.out _ (by repeat (first | exact Only.refl _ _ | refine Only.drew ?_ | refine Only.alloc ?_ _)))).mono ?_; rintro e w2 ⟨rfl, ho⟩; have HO2 : Hid (Only Nobody wr w2) := Lib.hid (Only.trans (by repeat (first | exact Only.refl _ _ | refine Only.drew ?_ | refine Only.alloc ?_ _)) ho); have hcd := HHC.out w2 HO2.out; clear ho))
          all_goals
            have HOn := Lib.hid (HON.out.trans HO2.out)
            go_wp2_with fail
            go_roundw
            case rel => first | exact ⟨k + 1, by go_num, by omega, HOn⟩ | ((repeat apply Exists.intro); exact ⟨⟨k + 1, by go_num, by omega, HOn⟩, rfl⟩)
            case measure => simp [intOf]; omega
        · obtain rfl : k = fn := by omega
          go_wp2_with fail
          go_ret
          exact ⟨rfl, HO0.out.trans HON.out⟩
theorem same_eq : ∀ n, SameOk n
  | 0 => fun _ _ _ _ _ _ _ h => h.elim
  | n + 1 => same_step n (same_eq n)
end Go.Proofs.YtdccckoelnnnoaaDoor
