/- Path: the reference's Find. -/
import Derived.Test.YtdccckoelnnnoaaDoorFiR
namespace Go.Proofs.YtdccckoelnnnoaaDoor
open Go.RowKit
attribute [local go_sem ↓] Go.wp_at_zero Go.wp_at_succ

/-- The reference's Find: the values, not cloned, and whether the path applies. -/
def RFindPost (S : Nat → Prop) (n : Nat) (T : VT) (L : List Pt) (w : World) (e : Ending) (w' : World) : Prop :=
  ∃ A m c V, e = .returned (.tuple #[.slice A m c, .bool (findT [T] L).isSome]) ∧ m ≤ c ∧ RowA VC.vals 6 w' (fun b => w.heap.size ≤ b) A m V ∧ All2 (VAt w' (fun b => S b ∧ b < w.heap.size) n) V ((findT [T] L).getD []) ∧ Only Nobody w w'
theorem rfind_no {S : Nat → Prop} {n : Nat} {T : VT} {L : List Pt} {w w' : World} (h : findT [T] L = none) (ho : Only Nobody w w') : RFindPost S n T L w (.returned (.tuple #[.slice none 0 0, .bool false])) w' :=
  ⟨none, 0, 0, [], by rw [h]; rfl, Nat.le_refl _, RowA.nil_, by rw [h]; exact All2.nil_, ho⟩
theorem RowA.at_block {α : Type} {g : α → List Value} {k : Nat} {w : World} {S S' : Nat → Prop} {ad : Addr} {n : Nat} {L : List α} (h : RowA g k w S (some ad) n L) (hs : S' ad.block) : RowA g k w S' (some ad) n L := ⟨h.rd, h.len, fun hn ad' e => by cases e; exact hs⟩
theorem own_cap {w : World} {base : Nat} {e : TypeId} {size n c : Nat} {A : Option Addr} {xs : List Value} (h : w.ownsRow base e size (.slice A n c) n xs) : n ≤ c := by
  rcases h.2 with ⟨e, h0⟩ | ⟨q, cap, cur, e, _, _, hc, _⟩
  · injection e with e1 e2 e3
    omega
  · injection e with e1 e2 e3
    omega
theorem next_step {S : Nat → Prop} {n N m5 : Nat} {Av : Option Addr} {cv : Nat} {V2 V5 : List VC} {Tq Tx : List VT} {wo wr w5 W w6 : World} {v6 : Value} (hg : W.grownBy w6 (Value.ownBlock (.slice Av N cv)))
    (hown : w6.ownsRow wo.heap.size 25 6 v6 (N + m5) (cells VC.vals V2 ++ cells VC.vals V5)) (hall : All2 (VAt wr S n) V2 Tq) (hN : Tq.length = N) (h5 : All2 (VAt w5 S n) V5 Tx) (hm : m5 = Tx.length)
    (hS : ∀ b, S b → b < wo.heap.size) (hsb : ∀ b, Value.ownBlock (.slice Av N cv) = some b → wo.heap.size ≤ b) (hWr : Only Nobody wr W) (hW5 : Only Nobody w5 W) (hoi : Only Nobody wo wr) :
    (∃ V2, w6.ownsRow wo.heap.size 25 6 v6 (Tq ++ Tx).length (cells VC.vals V2) ∧ All2 (VAt w6 S n) V2 (Tq ++ Tx)) ∧ Only Nobody wo w6 := by
  have HG : Only (fun b => Value.ownBlock (.slice Av N cv) = some b) W w6 := Only.of_grown hg (fun _ e => e)
  have hd : ∀ b, S b → ¬ Value.ownBlock (.slice Av N cv) = some b := fun b hb e => by
    have := hS b hb; have := hsb b e; omega
  refine ⟨⟨V2 ++ V5, ?_, ?_⟩, (hoi.trans hWr).trans_more (HG.mono (fun b e => .inr (hsb b e)))⟩
  · rw [List.length_append, hN, ← hm, cells_append]
    exact hown
  · exact (hall.imp fun _ _ h => (h.same hWr).keep HG hd).app (h5.imp fun _ _ h => (h.same hW5).keep HG hd)
set_option maxRecDepth 100000 in
set_option maxHeartbeats 16000000 in
theorem rfind_any (v : VC) (T : VT) (S : Nat → Prop) (n : Nat) (A : Option Addr) (m c : Nat) (L : List Pt) (w : World) (hsz : Fit T L) (h : VAt w S n v T) (ha : Pts w A m L) (hm : m ≤ 1000) (hok : okL L = true) : Calls Tryd.prog 17 #[.agg #[.int .i64 v.k, .int .i64 v.i, .int .i64 v.s, .string v.t, .slice v.la v.ln v.lc, .slice v.fa v.fn v.fc], .slice A m c] w (RFindPost S n T L w) := by
  have HV0 : Hid (VAt w (fun b => S b ∧ b < w.heap.size) n v T) := Lib.hid (h.mono fun b hb hs => ⟨hs, hb⟩)
  have HP := Lib.hid ha
  have HSZ := Lib.hid hsz
  have HVAL := Lib.hid (okL_val hok)
  clear h ha hok hsz
  go_enter Tryd.func17, Tryd.ntmps17
  go_wp2_with fail
  go_loopw [6, 7] (fun nv i wx => ∃ (k : Nat) (An : Option Addr) (mn cn : Nat) (Ts : List VT), i = .int .i64 (k : Int) ∧ k ≤ m ∧ nv = .slice An mn cn ∧ Hid (mn ≤ cn) ∧ Hid (findT [T] L = findT Ts (L.drop k)) ∧ Hid (sizeL Ts ≤ 140737488351232 ∧ Way T L k Ts) ∧ Hid (∃ V, RowA VC.vals 6 wx (fun b => w.heap.size ≤ b) An mn V ∧ All2 (VAt wx (fun b => S b ∧ b < w.heap.size) n) V Ts) ∧ Hid (Only Nobody w wx)) (fun _ i _ => m - (intOf i).toNat)
  case atStart =>
    exact ⟨0, _, _, _, [T], rfl, Nat.zero_le _, rfl, Lib.hid (Nat.le_refl _), Lib.hid rfl, Lib.hid ⟨HSZ.out.start, way_zero T L⟩, Lib.hid ⟨[v], (by have := RowA.newV (w.alloc (.cells #[.int .i64 v.k, .int .i64 v.i, .int .i64 v.s, .string v.t, .slice v.la v.ln v.lc, .slice v.fa v.fn v.fc] 25)) v; have := RowA.at_block (S' := fun b => w.heap.size ≤ b) this (by simp); simpa using this), All2.one (HV0.out.same (by repeat (first | exact Only.refl _ _ | refine Only.drew ?_ | refine Only.alloc ?_ _)))⟩, Lib.hid (by repeat (first | exact Only.refl _ _ | refine Only.drew ?_ | refine Only.alloc ?_ _))⟩
  case round =>
    obtain ⟨k, An, mn, cn, Ts, rfl, hk, rfl, HMC, HFT, HTS, HNOW, HON⟩ := hrel
    have HTL : Hid (Ts.length = mn) := Lib.hid (by obtain ⟨V, h1, h2⟩ := HNOW.out; rw [← h2.1, h1.len])
    have hmnB : mn ≤ 1599289640355 := by
      have := sizeL_len Ts; have := HTS.out.1; have := HSZ.out; have := HTL.out; omega
    by_cases hkm : k < m
    · have hkI : (k : Int) < (m : Int) := by omega
      have hk0 : (0 : Int) ≤ (k : Int) := by omega
      obtain ⟨pad, rfl⟩ := HP.out.some_ (by omega)
      obtain ⟨⟨pk, pi, pn⟩, hp⟩ := HP.out.get hkm
      have HPK := Lib.hid hp
      have HPV : Hid (validB ⟨pk, pi, pn⟩ = true) := Lib.hid (HVAL.out k _ (by rw [HP.out.len]; exact hkm) hp)
      obtain ⟨p0, p1, p2⟩ := (HP.out.same HON.out).at_ hp
      dsimp only at p0 p1 p2
      clear hp
      obtain ⟨wo, rfl⟩ : ∃ wo : World, wo = wr := ⟨_, rfl⟩
      go_wp2_with fail
      go_loopw [8, 9] (fun nx i wx => ∃ (q : Nat), i = .int .i64 (q : Int) ∧ q ≤ mn ∧ Hid (AppTo ⟨pk, pi, pn⟩ Ts q) ∧ Hid (∃ V2, wx.ownsRow wo.heap.size 25 6 nx (leadsL ⟨pk, pi, pn⟩ (Ts.take q)).length (cells VC.vals V2) ∧ All2 (VAt wx (fun b => S b ∧ b < w.heap.size) n) V2 (leadsL ⟨pk, pi, pn⟩ (Ts.take q))) ∧ Hid (Only Nobody wo wx)) (fun _ i _ => mn - (intOf i).toNat)
      case atStart => exact ⟨0, rfl, Nat.zero_le _, Lib.hid (fun _ _ h => absurd h (by omega)), Lib.hid ⟨[], ⟨rfl, .inl ⟨rfl, rfl⟩⟩, All2.nil_⟩, Lib.hid (Only.refl _ _)⟩
      case round =>
        obtain ⟨q, rfl, hq, HAP, HNX, HOI⟩ := hrel
        by_cases hqm : q < mn
        · have hqI : (q : Int) < (mn : Int) := by omega
          have hq0 : (0 : Int) ≤ (q : Int) := by omega
          obtain ⟨V, hV, hA2⟩ := HNOW.out
          obtain ⟨ad, rfl⟩ := hV.some_ (by omega)
          obtain ⟨o, ho⟩ := hV.get hqm
          obtain ⟨x, hx, hax⟩ := hA2.get ho
          obtain ⟨a0, a1, a2, a3, a4, a5⟩ := (hV.same HOI.out).vat ho
          have HX := Lib.hid hx
          have HAX : Hid (∀ w', Only Nobody wr w' → VAt w' (fun b => S b ∧ b < w.heap.size) n o x) := Lib.hid fun w' h => (hax.same (HOI.out.trans h))
          have HXS : Hid (x.size ≤ 140737488351232) := Lib.hid (by have := sizeL_mem hx; have := HTS.out.1; have := HSZ.out; omega)
          have HC : Hid (∀ w', Only Nobody wr w' → w'.cell? (ad.add (q * 6)) = some (.int .i64 o.k) ∧ w'.cell? ⟨(ad.add (q * 6)).block, (ad.add (q * 6)).off + 1, none⟩ = some (.int .i64 o.i) ∧ w'.cell? ⟨(ad.add (q * 6)).block, (ad.add (q * 6)).off + 2, none⟩ = some (.int .i64 o.s) ∧ w'.cell? ⟨(ad.add (q * 6)).block, (ad.add (q * 6)).off + 3, none⟩ = some (.string o.t) ∧ w'.cell? ⟨(ad.add (q * 6)).block, (ad.add (q * 6)).off + 4, none⟩ = some (.slice o.la o.ln o.lc) ∧ w'.cell? ⟨(ad.add (q * 6)).block, (ad.add (q * 6)).off + 5, none⟩ = some (.slice o.fa o.fn o.fc) ∧ w'.cell? (pad.add (k * 3)) = some (.int .i64 pk) ∧ w'.cell? ⟨(pad.add (k * 3)).block, (pad.add (k * 3)).off + 1, none⟩ = some (.int .i64 pi) ∧ w'.cell? ⟨(pad.add (k * 3)).block, (pad.add (k * 3)).off + 2, none⟩ = some (.string pn)) := Lib.hid fun w' h' => by
            obtain ⟨x0, x1, x2, x3, x4, x5⟩ := (hV.same (HOI.out.trans h')).vat ho
            obtain ⟨x6, x7, x8⟩ := (HP.out.same ((HON.out.trans HOI.out).trans h')).at_ HPK.out
            exact ⟨x0, x1, x2, x3, x4, x5, x6, x7, x8⟩
          have HLD : Hid (∀ w', Only Nobody wr w' → Calls Tryd.prog 40 #[.agg #[.int .i64 o.k, .int .i64 o.i, .int .i64 o.s, .string o.t, .slice o.la o.ln o.lc, .slice o.fa o.fn o.fc], .agg #[.int .i64 pk, .int .i64 pi, .string pn]] w' (RLeadPost (fun b => S b ∧ b < w.heap.size) n ⟨pk, pi, pn⟩ x w')) := Lib.hid fun w' h' => rlead_any pk pi pn o x _ n HPV.out HXS.out w' (HAX.out w' h')
          have HOX : Hid (Only Nobody wr wr) := Lib.hid (Only.refl _ _)
          obtain ⟨_, _, _, _, _, _, y0, y1, y2⟩ := HC.out wr (Only.refl _ _)
          obtain ⟨V2, hown, hall⟩ := HNX.out
          obtain ⟨Av, cv, hsv⟩ := own_form hown
          obtain ⟨N, HN⟩ : ∃ N, Hid ((leadsL ⟨pk, pi, pn⟩ (Ts.take q)).length = N) := ⟨_, Lib.hid rfl⟩
          rw [HN.out] at hsv hown
          subst hsv
          have HROW : Hid (∀ w', Only Nobody wr w' → w'.ownsRow wo.heap.size 25 6 (.slice Av N cv) N (cells VC.vals V2)) := Lib.hid fun w' h => h.row hown (fun _ _ x => x)
          have HALL := Lib.hid hall
          have HSB : Hid (∀ b, Value.ownBlock (.slice Av N cv) = some b → wo.heap.size ≤ b) := Lib.hid fun b e => (hown.lt b e).1
          have HSW : Hid (w.heap.size ≤ wo.heap.size) := Lib.hid HON.out.size
          have HSR : Hid (wo.heap.size ≤ wr.heap.size) := Lib.hid HOI.out.size
          obtain ⟨i0, hi0, hz0, hz1, hz2⟩ := info_parts infoV
          obtain ⟨B, HB⟩ : ∃ B, Hid (appT ⟨pk, pi, pn⟩ x = B) := ⟨_, Lib.hid rfl⟩
          clear p0 p1 p2 hV hA2 ho hx hax hown hall
          go_wp2_with fail
          go_region_held3 (fun w' => w'.cell? (ad.add (q * 6)) = some (.int .i64 o.k) ∧ w'.cell? ⟨(ad.add (q * 6)).block, (ad.add (q * 6)).off + 1, none⟩ = some (.int .i64 o.i) ∧ w'.cell? ⟨(ad.add (q * 6)).block, (ad.add (q * 6)).off + 2, none⟩ = some (.int .i64 o.s) ∧ w'.cell? ⟨(ad.add (q * 6)).block, (ad.add (q * 6)).off + 3, none⟩ = some (.string o.t) ∧ w'.cell? ⟨(ad.add (q * 6)).block, (ad.add (q * 6)).off + 4, none⟩ = some (.slice o.la o.ln o.lc) ∧ w'.cell? ⟨(ad.add (q * 6)).block, (ad.add (q * 6)).off + 5, none⟩ = some (.slice o.fa o.fn o.fc) ∧ w'.cell? (pad.add (k * 3)) = some (.int .i64 pk) ∧ w'.cell? ⟨(pad.add (k * 3)).block, (pad.add (k * 3)).off + 1, none⟩ = some (.int .i64 pi) ∧ w'.cell? ⟨(pad.add (k * 3)).block, (pad.add (k * 3)).off + 2, none⟩ = some (.string pn)) (exact HC.out _ (by repeat (first | exact HOX.out | exact Only.refl _ _ | refine Only.drew ?_ | refine Only.alloc ?_ _))) (first
            | (go_at_call 40; refine (HLD.out _ (by repeat (first | exact HOX.out | exact Only.refl _ _ | refine Only.drew ?_ | refine Only.alloc ?_ _))).mono ?_; rintro e w5 ⟨A5, m5, c5, V5, rfl, hr5, ha5, ho5⟩; have HR5 := Lib.hid hr5; have HA5 := Lib.hid ha5; have HOX : Hid (Only Nobody wr w5) := Lib.hid (Only.trans (by repeat (first | exact HOX.out | refine Only.drew ?_ | refine Only.alloc ?_ _)) ho5); clear hr5 ha5 ho5))
          rw [HB.out]
          cases B with
          | false =>
            have HF0 : Hid (findT [T] L = none) := Lib.hid (find_fail HFT.out HPK.out (app_not HX.out HB.out))
            go_wp2_with fail
            go_ret2
            exact rfind_no HF0.out ((HON.out.trans HOI.out).trans (by repeat (first | exact HOX.out | refine Only.drew ?_)))
          | true =>
            have HAPn := Lib.hid (HAP.out.next HX.out HB.out)
            have HNB : Hid (N + (leadL ⟨pk, pi, pn⟩ x).length ≤ 1599289640355) := Lib.hid (by
              have h1 := HSZ.out.way k ⟨pk, pi, pn⟩ (q + 1) Ts HTS.out.2 HPK.out HAPn.out
              have h2 := sizeL_len (leadsL ⟨pk, pi, pn⟩ (Ts.take (q + 1)))
              rw [leadsL_take HX.out, List.length_append, HN.out] at h2
              rw [leadsL_take HX.out] at h1
              omega)
            have HL5 := Lib.hid (HA5.out HB.out)
            have HM5 : Hid (m5 = (leadL ⟨pk, pi, pn⟩ x).length) := Lib.hid (by rw [← HL5.out.1, HR5.out.len])
            have HU := Lib.hid (one_vs V5)
            have HBY : Hid (N + m5 ≤ maxLen ∧ (N + m5) * 88 ≤ 140737488355328) := Lib.hid (by have := HNB.out; have := HM5.out; unfold maxLen; omega)
            have HBB : Hid (∀ w', Only Nobody wr w' → wo.heap.size ≤ w'.heap.size) := Lib.hid fun w' h => Nat.le_trans HSR.out h.size
            have HRD : Hid (∀ w', Only Nobody w5 w' → Reads w' w'.heap.size 6 A5 m5 (cells VC.vals V5)) := Lib.hid fun w' h => (HR5.out.same h).rd
            go_upto_region 12 with fail
            go_wp2_with (at_builtin; refine wpList_append_any _ rfl (.tmp 40) (.tmp 41) _ rfl wo.heap.size 25 i0 _ 6 88 Tryd.underlying22 hi0 hz0 hz1 hz2 rfl (by omega) (.slice Av N cv) N (cells VC.vals V2) rfl (HROW.out _ (by repeat (first | exact HOX.out | refine Only.drew ?_))) _ A5 m5 c5 (cells VC.vals V5) rfl (HRD.out _ (by repeat (first | exact Only.refl _ _ | refine Only.drew ?_))) HU.out HBY.out.1 HBY.out.2 (HBB.out _ (by repeat (first | exact HOX.out | refine Only.drew ?_))) ?_)
            intro v6 w6 hown6 hgrow6 hat6
            have HNEW := Lib.hid (next_step hgrow6 hown6 HALL.out HN.out HL5.out HM5.out (fun b hb => Nat.lt_of_lt_of_le hb.2 HSW.out) HSB.out (by repeat (first | exact HOX.out | refine Only.drew ?_)) (by repeat (first | exact Only.refl _ _ | refine Only.drew ?_)) HOI.out)
            rw [← leadsL_take HX.out] at HNEW
            have HNXn := Lib.hid HNEW.out.1
            have HOIn := Lib.hid HNEW.out.2
            clear hown6 hgrow6 hat6 HNEW
            go_wp2_with fail
            go_roundw
            case rel => first | exact ⟨q + 1, by go_num, by omega, HAPn, HNXn, HOIn⟩ | ((repeat apply Exists.intro); exact ⟨⟨q + 1, by go_num, by omega, HAPn, HNXn, HOIn⟩, rfl⟩)
            case measure => simp [intOf]; omega
        · obtain rfl : q = mn := by omega
          have HFTn : Hid (findT [T] L = findT (leadsL ⟨pk, pi, pn⟩ Ts) (L.drop (k + 1))) := Lib.hid (find_step HFT.out HPK.out (AppTo.all (by rw [HTL.out]; exact HAP.out)))
          have HTSn : Hid (sizeL (leadsL ⟨pk, pi, pn⟩ Ts) ≤ 140737488351232 ∧ Way T L (k + 1) (leadsL ⟨pk, pi, pn⟩ Ts)) := Lib.hid ⟨by
            have h1 := HSZ.out.way k ⟨pk, pi, pn⟩ Ts.length Ts HTS.out.2 HPK.out (by rw [HTL.out]; exact HAP.out)
            rwa [List.take_length] at h1, HTS.out.2.next HPK.out (AppTo.all (by rw [HTL.out]; exact HAP.out))⟩
          obtain ⟨V2, hown, hall⟩ := HNX.out
          have htk : Ts.take q = Ts := List.take_of_length_le (by rw [HTL.out]; exact Nat.le_refl _)
          obtain ⟨Av, cv, hsv⟩ := own_form hown
          subst hsv
          have HNOWn : Hid (∃ V, RowA VC.vals 6 wr (fun b => w.heap.size ≤ b) Av (leadsL ⟨pk, pi, pn⟩ (Ts.take q)).length V ∧ All2 (VAt wr (fun b => S b ∧ b < w.heap.size) n) V (leadsL ⟨pk, pi, pn⟩ Ts)) := Lib.hid ⟨V2, (RowA.of_own vlen (by omega) hown).mono (fun b _ hb => Nat.le_trans HON.out.size hb.1), by
            rw [htk] at hall
            exact hall⟩
          have HCPn : Hid ((leadsL ⟨pk, pi, pn⟩ (Ts.take q)).length ≤ cv) := Lib.hid (own_cap hown)
          have HONn : Hid (Only Nobody w wr) := Lib.hid (HON.out.trans HOI.out)
          clear hown hall htk p0 p1 p2
          go_wp2_with fail
          go_roundw
          case rel => first | exact ⟨k + 1, _, _, _, _, by go_num, by omega, rfl, HCPn, HFTn, HTSn, HNOWn, HONn⟩ | ((repeat apply Exists.intro); exact ⟨⟨k + 1, _, _, _, _, by go_num, by omega, rfl, HCPn, HFTn, HTSn, HNOWn, HONn⟩, rfl⟩)
          case measure => simp [intOf]; omega
    · obtain rfl : k = m := by omega
      have HF0 : Hid (findT [T] L = some Ts) := Lib.hid (find_done (by have := HFT.out; rw [← HP.out.len] at this; exact this))
      go_wp2_with fail
      go_ret2
      obtain ⟨V, hV, hA⟩ := HNOW.out
      exact ⟨An, mn, cn, V, by rw [HF0.out]; rfl, HMC.out, hV, by rw [HF0.out]; exact hA, HON.out⟩
end Go.Proofs.YtdccckoelnnnoaaDoor
