/- Path: contract of Find. (printed by gen_fia.py) -/
import Derived.Test.YtdccckoelnnnoaaDoorVaC
import Derived.Test.YtdccckoelnnnoaaDoorFiP
namespace Go.Proofs.YtdccckoelnnnoaaDoor
open Go.RowKit
attribute [local go_sem ↓] Go.wp_at_zero Go.wp_at_succ

theorem one_vs (V : List VC) : ∀ u ∈ cells VC.vals V, u.oneCell' = true := by
  intro u hu
  obtain ⟨v, _, hv⟩ := List.mem_flatMap.1 hu
  exact one_v v u hv
/-- Find returns values in new memory, and an error. -/
def FindPost (n : Nat) (T : VT) (L : List Pt) (w : World) (e : Ending) (w' : World) : Prop :=
  ∃ A c, e = .returned (.tuple #[.slice A (findR T L).length c, .int .i64 (findE T L)]) ∧ VRow w' (fun b => w.heap.size ≤ b) n A (findR T L).length (findR T L) ∧ (findR T L).length ≤ c ∧ Only Nobody w w'
theorem find_err {n : Nat} {T : VT} {L : List Pt} {w w' : World} {er : Int} (h1 : findE T L = er) (h2 : findR T L = []) (ho : Only Nobody w w') : FindPost n T L w (.returned (.tuple #[.slice none 0 0, .int .i64 er])) w' :=
  ⟨none, 0, by rw [h1, h2]; rfl, by rw [h2]; exact ⟨[], RowA.nil_, All2.nil_⟩, by rw [h2]; exact Nat.le_refl _, ho⟩
set_option maxRecDepth 100000 in
set_option maxHeartbeats 16000000 in
theorem find_any (v : VC) (T : VT) (S : Nat → Prop) (n : Nat) (A : Option Addr) (m c : Nat) (L : List Pt) (w : World) (hsz : Fit T L) (h : VAt w S n v T) (ha : Pts w A m L) (hm : m ≤ 1000) (ht : CalTab w) : Calls Tryd.prog 15 #[.agg #[.int .i64 v.k, .int .i64 v.i, .int .i64 v.s, .string v.t, .slice v.la v.ln v.lc, .slice v.fa v.fn v.fc], .slice A m c] w (FindPost n T L w) := by
  have HV0 : Hid (VAt w (fun b => b < w.heap.size) n v T) := Lib.hid (h.mono fun b hb _ => hb)
  have HP := Lib.hid ha
  have HT := Lib.hid ht
  have HSZ := Lib.hid hsz
  have HB0 : Hid (Blk (w.alloc (.cells #[.int .i64 v.k, .int .i64 v.i, .int .i64 v.s, .string v.t, .slice v.la v.ln v.lc, .slice v.fa v.fn v.fc] 25)) w.heap.size 25 #[.int .i64 v.k, .int .i64 v.i, .int .i64 v.s, .string v.t, .slice v.la v.ln v.lc, .slice v.fa v.fn v.fc]) := Lib.hid (Blk.new w _ _)
  have HOA : Hid (Only Nobody w (w.alloc (.cells #[.int .i64 v.k, .int .i64 v.i, .int .i64 v.s, .string v.t, .slice v.la v.ln v.lc, .slice v.fa v.fn v.fc] 25))) := Lib.hid ((Only.refl _ _).alloc _)
  have HEV : Hid (∀ w', Only Nobody w w' → Calls Tryd.prog 29 #[.slice A m c] w' fun e w'' => e = .returned (.bool (everyL L)) ∧ Only Nobody w' w'') := Lib.hid fun w' ho => every_any A m c L hm w' (ha.same ho)
  by_cases hok : okL L = true
  case neg =>
    have HE : Hid (chkE L = 3) := Lib.hid (chkE_no hok)
    have HF1 : Hid (findE T L = 3) := Lib.hid (by unfold findE; rw [HE.out]; rfl)
    have HF2 : Hid (findR T L = []) := Lib.hid (by unfold findR; rw [HE.out]; rfl)
    clear h ha ht hok hsz
    go_enter Tryd.func15, Tryd.ntmps15
    go_wp2_with fail
    refine (check_any A m c L _ (HP.out.same HOA.out) (HT.out.same HOA.out)).mono ?_
    rw [HE.out]
    rintro e w1 ⟨rfl, ho⟩
    have HO := Lib.hid (HOA.out.trans ho)
    clear ho
    go_wp2_with fail
    go_ret2
    exact find_err HF1.out HF2.out HO.out
  have HE : Hid (chkE L = 0) := Lib.hid (chkE_ok hok)
  have HVAL := Lib.hid (okL_val hok)
  clear h ha ht hok hsz
  go_enter Tryd.func15, Tryd.ntmps15
  go_wp2_with fail
  refine (check_any A m c L _ (HP.out.same HOA.out) (HT.out.same HOA.out)).mono ?_
  rw [HE.out]
  rintro e w1 ⟨rfl, ho⟩
  have HB1 := Lib.hid (ho.blk HB0.out (fun x => x))
  have HO1 := Lib.hid (HOA.out.trans ho)
  clear ho HB0 HOA
  have b0 : w1.cell? ⟨w.heap.size, 0, none⟩ = some (.int .i64 v.k) := HB1.out.cell 0
  have b1 : w1.cell? ⟨w.heap.size, 1, none⟩ = some (.int .i64 v.i) := HB1.out.cell 1
  have b2 : w1.cell? ⟨w.heap.size, 2, none⟩ = some (.int .i64 v.s) := HB1.out.cell 2
  have b3 : w1.cell? ⟨w.heap.size, 3, none⟩ = some (.string v.t) := HB1.out.cell 3
  have b4 : w1.cell? ⟨w.heap.size, 4, none⟩ = some (.slice v.la v.ln v.lc) := HB1.out.cell 4
  have b5 : w1.cell? ⟨w.heap.size, 5, none⟩ = some (.slice v.fa v.fn v.fc) := HB1.out.cell 5
  go_wp2_with fail
  clear b0 b1 b2 b3 b4 b5
  go_loopw [7, 25] (fun nv i wx => ∃ (k : Nat) (An : Option Addr) (mn cn : Nat) (Ts : List VT), i = .int .i64 (k : Int) ∧ k ≤ m ∧ nv = .slice An mn cn ∧ Hid (findT [T] L = findT Ts (L.drop k)) ∧ Hid (sizeL Ts ≤ 140737488351232 ∧ Way T L k Ts) ∧ Hid (∃ V, RowA VC.vals 6 wx Any_ An mn V ∧ All2 (VAt wx (fun b => b < w.heap.size) n) V Ts) ∧ Hid (Only Nobody w wx)) (fun _ i _ => m - (intOf i).toNat)
  case atStart =>
    exact ⟨0, _, _, _, [T], rfl, Nat.zero_le _, rfl, Lib.hid rfl, Lib.hid ⟨HSZ.out.start, way_zero T L⟩, Lib.hid ⟨[v], RowA.newV w1 v, All2.one ((HV0.out.same HO1.out).same ((Only.refl _ _).alloc _))⟩, Lib.hid (HO1.out.alloc _)⟩
  case round =>
    clear HB1 HO1
    obtain ⟨k, An, mn, cn, Ts, rfl, hk, rfl, HFT, HTS, HNOW, HON⟩ := hrel
    have HTL : Hid (Ts.length = mn) := Lib.hid (by obtain ⟨V, h1, h2⟩ := HNOW.out; rw [← h2.1, h1.len])
    have hmnB : mn ≤ 1599289640355 := by
      have := sizeL_len Ts; have := HTS.out.1; have := HSZ.out; have := HTL.out; omega
    by_cases hkm : k < m
    · have hkI : (k : Int) < (m : Int) := by omega
      have hk0 : (0 : Int) ≤ (k : Int) := by omega
      obtain ⟨pad, rfl⟩ := HP.out.some_ (by omega)
      obtain ⟨⟨pk, pi, pn⟩, hp⟩ := HP.out.get hkm
      obtain ⟨p0, p1, p2⟩ := (HP.out.same HON.out).at_ hp
      dsimp only at p0 p1 p2
      have HPK := Lib.hid hp
      have HPV : Hid (validB ⟨pk, pi, pn⟩ = true) := Lib.hid (HVAL.out k _ (by rw [HP.out.len]; exact hkm) hp)
      clear hp
      obtain ⟨wo, rfl⟩ : ∃ wo : World, wo = wr := ⟨_, rfl⟩
      have HPB : Hid (Blk (wo.alloc (.cells #[.int .i64 pk, .int .i64 pi, .string pn] 61)) wo.heap.size 61 #[.int .i64 pk, .int .i64 pi, .string pn]) := Lib.hid (Blk.new wo _ _)
      go_wp2_with fail
      clear p0 p1 p2
      go_loopw [10, 31] (fun nx i wx => ∃ (q : Nat), i = .int .i64 (q : Int) ∧ q ≤ mn ∧ Hid (AppTo ⟨pk, pi, pn⟩ Ts q) ∧ Hid (∃ V2, wx.ownsRow (wo.heap.size + 1) 25 6 nx (leadsL ⟨pk, pi, pn⟩ (Ts.take q)).length (cells VC.vals V2) ∧ All2 (VAt wx (fun b => b < w.heap.size) n) V2 (leadsL ⟨pk, pi, pn⟩ (Ts.take q))) ∧ Hid (Only Nobody (wo.alloc (.cells #[.int .i64 pk, .int .i64 pi, .string pn] 61)) wx)) (fun _ i _ => mn - (intOf i).toNat)
      case atStart => exact ⟨0, rfl, Nat.zero_le _, Lib.hid (fun _ _ h => absurd h (by omega)), Lib.hid ⟨[], ⟨rfl, .inl ⟨rfl, rfl⟩⟩, All2.nil_⟩, Lib.hid (Only.refl _ _)⟩
      case round =>
        obtain ⟨q, rfl, hq, HAP, HNX, HOI⟩ := hrel
        have HOW : Hid (Only Nobody wo wr) := Lib.hid (((Only.refl _ _).alloc _).trans HOI.out)
        by_cases hqm : q < mn
        · have hqI : (q : Int) < (mn : Int) := by omega
          have hq0 : (0 : Int) ≤ (q : Int) := by omega
          obtain ⟨V, hV, hA2⟩ := HNOW.out
          obtain ⟨ad, rfl⟩ := hV.some_ (by omega)
          obtain ⟨o, ho⟩ := hV.get hqm
          obtain ⟨x, hx, hax⟩ := hA2.get ho
          obtain ⟨a0, a1, a2, a3, a4, a5⟩ := (hV.same HOW.out).vat ho
          have HX := Lib.hid hx
          have HAX : Hid (∀ w', Only Nobody wr w' → VAt w' (fun b => b < w.heap.size) n o x) := Lib.hid fun w' h => (hax.same (HOW.out.trans h))
          have HXS : Hid (x.size ≤ 140737488351232) := Lib.hid (by have := sizeL_mem hx; have := HTS.out.1; have := HSZ.out; omega)
          have HPW : Hid (∀ w', Only Nobody wr w' → Blk w' wo.heap.size 61 #[.int .i64 pk, .int .i64 pi, .string pn]) := Lib.hid fun w' h => (HOI.out.trans h).blk HPB.out (fun x => x)
          have HXB : Hid (Blk (wr.alloc (.cells #[.int .i64 o.k, .int .i64 o.i, .int .i64 o.s, .string o.t, .slice o.la o.ln o.lc, .slice o.fa o.fn o.fc] 25)) wr.heap.size 25 #[.int .i64 o.k, .int .i64 o.i, .int .i64 o.s, .string o.t, .slice o.la o.ln o.lc, .slice o.fa o.fn o.fc]) := Lib.hid (Blk.new wr _ _)
          have HBE : Hid (appB ⟨pk, pi, pn⟩ o = appT ⟨pk, pi, pn⟩ x) := Lib.hid (app_eq hax _)
          have y0 : wr.cell? ⟨wo.heap.size, 0, none⟩ = some (.int .i64 pk) := (HPW.out wr (Only.refl _ _)).cell 0
          have y1 : wr.cell? ⟨wo.heap.size, 1, none⟩ = some (.int .i64 pi) := (HPW.out wr (Only.refl _ _)).cell 1
          have y2 : wr.cell? ⟨wo.heap.size, 2, none⟩ = some (.string pn) := (HPW.out wr (Only.refl _ _)).cell 2
          have hyl : wo.heap.size < wr.heap.size := (HPW.out wr (Only.refl _ _)).lt
          clear hV hA2 ho hx hax
          cases hb : appT ⟨pk, pi, pn⟩ x with
          | false =>
            have HF0 : Hid (findT [T] L = none) := Lib.hid (find_fail HFT.out HPK.out (app_not HX.out hb))
            have HF1 : Hid (findE T L = 22) := Lib.hid (by unfold findE; rw [HE.out, HF0.out]; rfl)
            have HF2 : Hid (findR T L = []) := Lib.hid (by unfold findR; rw [HE.out, HF0.out]; rfl)
            rw [hb] at HBE
            clear hb
            go_wp2_with fail
            refine (applies_any pk pi pn o _).mono ?_
            rw [HBE.out]
            rintro e w2 ⟨rfl, ho⟩
            have HO2 : Hid (Only Nobody w w2) := Lib.hid ((HON.out.trans HOW.out).trans (((Only.refl _ _).alloc _).trans ho))
            clear ho
            go_wp2_with fail
            go_ret2
            exact find_err HF1.out HF2.out HO2.out
          | true =>
            have HAPn := Lib.hid (HAP.out.next HX.out hb)
            rw [hb] at HBE
            clear hb
            obtain ⟨V2, hown, hall⟩ := HNX.out
            obtain ⟨Av, cv, hsv⟩ := own_form hown
            obtain ⟨N, HN⟩ : ∃ N, Hid ((leadsL ⟨pk, pi, pn⟩ (Ts.take q)).length = N) := ⟨_, Lib.hid rfl⟩
            rw [HN.out] at hsv hown
            subst hsv
            have HROW : Hid (∀ w', Only Nobody wr w' → w'.ownsRow (wo.heap.size + 1) 25 6 (.slice Av N cv) N (cells VC.vals V2)) := Lib.hid fun w' h => h.row hown (fun _ _ x => x)
            have HALL : Hid (∀ w', Only Nobody wr w' → All2 (VAt w' (fun b => b < w.heap.size) n) V2 (leadsL ⟨pk, pi, pn⟩ (Ts.take q))) := Lib.hid fun w' h => hall.imp fun _ _ q => q.same h
            have HSB : Hid (∀ b, Value.ownBlock (.slice Av N cv) = some b → wo.heap.size + 1 ≤ b ∧ b < wr.heap.size) := Lib.hid hown.lt
            have HNB : Hid (N + (leadL ⟨pk, pi, pn⟩ x).length ≤ 1599289640355) := Lib.hid (by
              have h1 := HSZ.out.way k ⟨pk, pi, pn⟩ (q + 1) Ts HTS.out.2 HPK.out HAPn.out
              have h2 := sizeL_len (leadsL ⟨pk, pi, pn⟩ (Ts.take (q + 1)))
              rw [leadsL_take HX.out, List.length_append, HN.out] at h2
              rw [leadsL_take HX.out] at h1
              omega)
            have HWO : Hid (w.heap.size ≤ wo.heap.size ∧ wo.heap.size ≤ wr.heap.size) := Lib.hid ⟨HON.out.size, HOW.out.size⟩
            obtain ⟨i0, hi0, hz0, hz1, hz2⟩ := info_parts infoV
            clear hown hall
            go_wp2_with fail
            refine (applies_any pk pi pn o _).mono ?_
            rw [HBE.out]
            rintro e w2 ⟨rfl, ho⟩
            have HXB2 := Lib.hid (ho.blk HXB.out (fun x => x))
            have HO2 : Hid (Only Nobody wr w2) := Lib.hid (((Only.refl _ _).alloc _).trans ho)
            clear ho y0 y1 y2
            have y0 : w2.cell? ⟨wo.heap.size, 0, none⟩ = some (.int .i64 pk) := (HPW.out w2 HO2.out).cell 0
            have y1 : w2.cell? ⟨wo.heap.size, 1, none⟩ = some (.int .i64 pi) := (HPW.out w2 HO2.out).cell 1
            have y2 : w2.cell? ⟨wo.heap.size, 2, none⟩ = some (.string pn) := (HPW.out w2 HO2.out).cell 2
            have z0 : w2.cell? ⟨wr.heap.size, 0, none⟩ = some (.int .i64 o.k) := HXB2.out.cell 0
            have z1 : w2.cell? ⟨wr.heap.size, 1, none⟩ = some (.int .i64 o.i) := HXB2.out.cell 1
            have z2 : w2.cell? ⟨wr.heap.size, 2, none⟩ = some (.int .i64 o.s) := HXB2.out.cell 2
            have z3 : w2.cell? ⟨wr.heap.size, 3, none⟩ = some (.string o.t) := HXB2.out.cell 3
            have z4 : w2.cell? ⟨wr.heap.size, 4, none⟩ = some (.slice o.la o.ln o.lc) := HXB2.out.cell 4
            have z5 : w2.cell? ⟨wr.heap.size, 5, none⟩ = some (.slice o.fa o.fn o.fc) := HXB2.out.cell 5
            go_wp2_with fail
            refine (lead_any pk pi pn o x _ n HPV.out HXS.out _ (HAX.out _ HO2.out)).mono ?_
            rintro e w3 ⟨A5, m5, c5, V5, rfl, hr5, ha5, ho⟩
            have HO3 : Hid (Only Nobody wr w3) := Lib.hid (HO2.out.trans ho)
            have HR5 := Lib.hid hr5.rd
            have HA5 := Lib.hid ha5
            have hm5 : m5 = (leadL ⟨pk, pi, pn⟩ x).length := by rw [← ha5.1, hr5.len]
            have HM5 := Lib.hid hm5
            have HU := Lib.hid (one_vs V5)
            have HRW := Lib.hid (HROW.out _ HO3.out)
            have HBB : Hid (wo.heap.size + 1 ≤ w3.heap.size) := Lib.hid (by have := HO3.out.size; omega)
            have HBY : Hid (N + m5 ≤ maxLen ∧ (N + m5) * 88 ≤ 140737488355328) := Lib.hid (by have := HNB.out; unfold maxLen; omega)
            clear hr5 ha5 ho hm5
            go_wp2_with (at_builtin; refine wpList_append_any _ rfl (.tmp 39) (.tmp 42) _ rfl (wo.heap.size + 1) 25 i0 _ 6 88 Tryd.underlying22 hi0 hz0 hz1 hz2 rfl (by omega) (.slice Av N cv) N (cells VC.vals V2) rfl HRW.out _ A5 m5 c5 (cells VC.vals V5) rfl HR5.out HU.out HBY.out.1 HBY.out.2 HBB.out ?_)
            intro v6 w6 hown6 hgrow6 hat6
            have HG : Hid (Only (fun b => Value.ownBlock (.slice Av N cv) = some b) w3 w6) := Lib.hid (Only.of_grown hgrow6 (fun _ e => e))
            have HNXn : Hid (∃ V2, w6.ownsRow (wo.heap.size + 1) 25 6 v6 (leadsL ⟨pk, pi, pn⟩ (Ts.take (q + 1))).length (cells VC.vals V2) ∧ All2 (VAt w6 (fun b => b < w.heap.size) n) V2 (leadsL ⟨pk, pi, pn⟩ (Ts.take (q + 1)))) := Lib.hid (by
              refine ⟨V2 ++ V5, ?_, ?_⟩
              · rw [leadsL_take HX.out, List.length_append, HN.out, ← HM5.out, cells_append]
                exact hown6
              · rw [leadsL_take HX.out]
                have hd : ∀ b, b < w.heap.size → ¬ Value.ownBlock (.slice Av N cv) = some b := fun b hb e => by
                  have := (HSB.out b e).1; have := HWO.out.1; omega
                exact ((HALL.out _ HO3.out).imp fun _ _ h => h.keep HG.out hd).app (HA5.out.imp fun _ _ h => h.keep HG.out hd))
            have HOIn : Hid (Only Nobody (wo.alloc (.cells #[.int .i64 pk, .int .i64 pi, .string pn] 61)) w6) := Lib.hid ((HOI.out.trans HO3.out).trans_more (HG.out.mono (fun b e => .inr (by have := (HSB.out b e).1; simp; omega))))
            clear hown6 hgrow6 hat6
            go_wp2_with fail
            go_roundw
            case rel => first | exact ⟨q + 1, by go_num, by omega, HAPn, HNXn, HOIn⟩ | ((repeat apply Exists.intro); exact ⟨⟨q + 1, by go_num, by omega, HAPn, HNXn, HOIn⟩, rfl⟩)
            case measure => simp [intOf]; omega
        · obtain rfl : q = mn := by omega
          have HFTn : Hid (findT [T] L = findT (leadsL ⟨pk, pi, pn⟩ Ts) (L.drop (k + 1))) := Lib.hid (find_step HFT.out HPK.out (AppTo.all (by rw [HTL.out]; exact HAP.out)))
          have HTSn : Hid (sizeL (leadsL ⟨pk, pi, pn⟩ Ts) ≤ 140737488351232 ∧ Way T L (k + 1) (leadsL ⟨pk, pi, pn⟩ Ts)) := Lib.hid ⟨by
            have h1 := HSZ.out.way k ⟨pk, pi, pn⟩ Ts.length Ts HTS.out.2 HPK.out (by rw [HTL.out]; exact HAP.out)
            rwa [List.take_length] at h1, HTS.out.2.next HPK.out (AppTo.all (by rw [HTL.out]; exact HAP.out))⟩
          obtain ⟨V2, hown, hall⟩ := HNX.out
          obtain ⟨Av, cv, hsv⟩ := own_form hown
          subst hsv
          have HNOWn : Hid (∃ V, RowA VC.vals 6 wr Any_ Av (leadsL ⟨pk, pi, pn⟩ (Ts.take q)).length V ∧ All2 (VAt wr (fun b => b < w.heap.size) n) V (leadsL ⟨pk, pi, pn⟩ Ts)) := Lib.hid ⟨V2, (RowA.of_own vlen (by omega) hown).mono (fun _ _ _ => trivial), by
            rw [List.take_of_length_le (by rw [HTL.out]; exact Nat.le_refl _)] at hall
            exact hall⟩
          have HONn : Hid (Only Nobody w wr) := Lib.hid (HON.out.trans HOW.out)
          clear hown hall
          go_wp2_with fail
          go_roundw
          case rel => first | exact ⟨k + 1, _, _, _, _, by go_num, by omega, rfl, HFTn, HTSn, HNOWn, HONn⟩ | ((repeat apply Exists.intro); exact ⟨⟨k + 1, _, _, _, _, by go_num, by omega, rfl, HFTn, HTSn, HNOWn, HONn⟩, rfl⟩)
          case measure => simp [intOf]; omega
    · obtain rfl : k = m := by omega
      have HF0 : Hid (findT [T] L = some Ts) := Lib.hid (find_done (by have := HFT.out; rw [← HP.out.len] at this; exact this))
      have HFR : Hid (findR T L = Ts) := Lib.hid (by unfold findR; rw [HE.out, HF0.out]; rfl)
      by_cases hz : mn = 0
      · subst hz
        have hnil : Ts = [] := List.eq_nil_of_length_eq_zero HTL.out
        have hzb : ((0 : Nat) : Int) = 0 := rfl
        cases hev : everyL L with
        | false =>
          have HF1 : Hid (findE T L = 19) := Lib.hid (by unfold findE; rw [HE.out, HF0.out, hnil, hev]; rfl)
          have HF2 : Hid (findR T L = []) := Lib.hid (by rw [HFR.out, hnil])
          have HEVL := Lib.hid hev
          clear hev hnil
          go_wp2_with fail
          refine (HEV.out _ HON.out).mono ?_
          rw [HEVL.out]
          rintro e w2 ⟨rfl, ho⟩
          have HO2 := Lib.hid (HON.out.trans ho)
          clear ho
          go_wp2_with fail
          go_ret2
          exact find_err HF1.out HF2.out HO2.out
        | true =>
          have HFE : Hid (findE T L = 0) := Lib.hid (by unfold findE; rw [HE.out, HF0.out, hnil, hev]; rfl)
          have HF2 : Hid (findR T L = []) := Lib.hid (by rw [HFR.out, hnil])
          have HEVL := Lib.hid hev
          clear hev hnil
          go_wp2_with fail
          refine (HEV.out _ HON.out).mono ?_
          rw [HEVL.out]
          rintro e w2 ⟨rfl, ho⟩
          have HO2 := Lib.hid (HON.out.trans ho)
          clear ho
          go_wp2_with fail
          go_loopw [13, 57] (fun ov i wx => i = .int .i64 0 ∧ ov = .slice none 0 0 ∧ Hid (Only Nobody w wx)) (fun _ _ _ => 0)
          case atStart => exact ⟨rfl, rfl, HO2⟩
          case round =>
            obtain ⟨rfl, rfl, HO3⟩ := hrel
            go_wp2_with fail
            go_ret2
            exact find_err HFE.out HF2.out HO3.out
      · have hmz : ((mn : Int) == 0) = false := by simp; omega
        have HFE : Hid (findE T L = 0) := Lib.hid (by
          unfold findE
          have hne : ¬ Ts = [] := fun e => hz (by rw [← HTL.out, e]; rfl)
          rw [HE.out, HF0.out]
          simp [hne])
        clear hz
        go_wp2_with fail
        obtain ⟨wl, rfl⟩ : ∃ wl : World, wl = wr := ⟨_, rfl⟩
        go_loopw [13, 57] (fun ov i wx => ∃ q : Nat, i = .int .i64 (q : Int) ∧ q ≤ mn ∧ Hid (OwnV n wx wl.heap.size ov (Ts.take q)) ∧ Hid (Only Nobody wl wx)) (fun _ i _ => mn - (intOf i).toNat)
        case atStart => exact ⟨0, rfl, Nat.zero_le _, Lib.hid OwnG.nil_, Lib.hid (by repeat (first | exact Only.refl _ _ | refine Only.drew ?_ | refine Only.alloc ?_ _))⟩
        case round =>
          obtain ⟨q, rfl, hq, HOW, HOL⟩ := hrel
          obtain ⟨i0, hi0, hz0, hz1, hz2⟩ := info_parts infoV
          by_cases hqm : q < mn
          · have hqI : (q : Int) < (mn : Int) := by omega
            have hq0 : (0 : Int) ≤ (q : Int) := by omega
            obtain ⟨V, hV, hA2⟩ := HNOW.out
            obtain ⟨ad, rfl⟩ := hV.some_ (by omega)
            obtain ⟨o, ho⟩ := hV.get hqm
            obtain ⟨x, hx, hax⟩ := hA2.get ho
            obtain ⟨a0, a1, a2, a3, a4, a5⟩ := (hV.same HOL.out).vat ho
            have HX := Lib.hid hx
            have HXS : Hid (x.size ≤ 140737488351232) := Lib.hid (by have := sizeL_mem hx; have := HTS.out.1; have := HSZ.out; omega)
            have HAX : Hid (∀ w', Only Nobody wr w' → VAt w' (fun b => b < w.heap.size) n o x) := Lib.hid fun w' h => (hax.same (HOL.out.trans h))
            have hlen : (Ts.take q).length = q := by rw [List.length_take, HTL.out]; omega
            obtain ⟨A3, c3, hsv⟩ := HOW.out.form
            rw [hlen] at hsv
            subst hsv
            have HLEN := Lib.hid hlen
            obtain ⟨Vs, hrow, hall⟩ := HOW.out
            have HROW : Hid (∀ w', Only Nobody wr w' → w'.ownsRow wl.heap.size 25 6 (.slice A3 q c3) q (cells VC.vals Vs)) := Lib.hid fun w' h => by
              have := h.row hrow (fun _ _ x => x)
              rw [hlen] at this
              exact this
            have HALL : Hid (∀ w', Only Nobody wr w' → All2 (RV n w' (fun b => wl.heap.size ≤ b ∧ Value.ownBlock (.slice A3 q c3) ≠ some b)) Vs (Ts.take q)) := Lib.hid fun w' h => hall.imp fun _ _ q => (rdV n).keep q h (fun _ _ x => x)
            have HSB : Hid (∀ b, Value.ownBlock (.slice A3 q c3) = some b → wl.heap.size ≤ b ∧ b < wr.heap.size) := Lib.hid hrow.lt
            have HBK : Hid (Blk (wr.alloc (.cells #[.int .i64 o.k, .int .i64 o.i, .int .i64 o.s, .string o.t, .slice o.la o.ln o.lc, .slice o.fa o.fn o.fc] 25)) wr.heap.size 25 #[.int .i64 o.k, .int .i64 o.i, .int .i64 o.s, .string o.t, .slice o.la o.ln o.lc, .slice o.fa o.fn o.fc]) := Lib.hid (Blk.new wr _ _)
            have HLW : Hid (wl.heap.size ≤ wr.heap.size) := Lib.hid HOL.out.size
            have HBY : Hid (q + 1 ≤ maxLen ∧ (q + 1) * 88 ≤ 140737488355328) := Lib.hid (by unfold maxLen; omega)
            clear hV hA2 ho hx hax hrow hall hlen
            go_wp2_with fail
            refine (clone_any n o x _ _ HXS.out (HAX.out _ ((Only.refl _ _).alloc _))).mono ?_
            rintro e w2 ⟨v2, rfl, hv2, ho2⟩
            have HQ2 : Hid (Only Nobody wr w2) := Lib.hid (((Only.refl _ _).alloc _).trans ho2)
            have HV2 : Hid (VAt w2 (fun b => wr.heap.size ≤ b) n v2 x) := Lib.hid (hv2.mono (fun b _ hb => Nat.le_trans (by simp) hb))
            have HRW : Hid ((w2.alloc (.cells #[.int .i64 v2.k, .int .i64 v2.i, .int .i64 v2.s, .string v2.t, .slice v2.la v2.ln v2.lc, .slice v2.fa v2.fn v2.fc] 25)).ownsRow wl.heap.size 25 6 (.slice A3 q c3) q (cells VC.vals Vs)) := Lib.hid (HROW.out _ (HQ2.out.alloc _))
            have HRD : Hid (Reads (w2.alloc (.cells #[.int .i64 v2.k, .int .i64 v2.i, .int .i64 v2.s, .string v2.t, .slice v2.la v2.ln v2.lc, .slice v2.fa v2.fn v2.fc] 25)) (w2.heap.size + 1) 6 (some ⟨w2.heap.size, 0, none⟩) 1 v2.vals) := Lib.hid (reads_alloc w2 25 #[.int .i64 v2.k, .int .i64 v2.i, .int .i64 v2.s, .string v2.t, .slice v2.la v2.ln v2.lc, .slice v2.fa v2.fn v2.fc] 6 1 rfl)
            have HU := Lib.hid (one_v v2)
            have HBB : Hid (wl.heap.size ≤ (w2.alloc (.cells #[.int .i64 v2.k, .int .i64 v2.i, .int .i64 v2.s, .string v2.t, .slice v2.la v2.ln v2.lc, .slice v2.fa v2.fn v2.fc] 25)).heap.size) := Lib.hid (by have := HQ2.out.size; have := HLW.out; simp; omega)
            clear hv2 ho2
            go_wp2_with (at_builtin; refine wpList_append_any _ rfl (.tmp 61) (.tmp 64) _ rfl wl.heap.size 25 i0 _ 6 88 Tryd.underlying22 hi0 hz0 hz1 hz2 rfl (by omega) (.slice A3 q c3) q (cells VC.vals Vs) rfl HRW.out _ (some ⟨w2.heap.size, 0, none⟩) 1 1 v2.vals rfl HRD.out HU.out HBY.out.1 HBY.out.2 HBB.out ?_)
            intro v4 w4 hown4 hgrow4 hat4
            have HOWn : Hid (OwnV n w4 wl.heap.size v4 (Ts.take (q + 1))) := Lib.hid (by
              have h2 : All2 (RV n (w2.alloc (.cells #[.int .i64 v2.k, .int .i64 v2.i, .int .i64 v2.s, .string v2.t, .slice v2.la v2.ln v2.lc, .slice v2.fa v2.fn v2.fc] 25)) (fun b => wl.heap.size ≤ b ∧ Value.ownBlock (.slice A3 q c3) ≠ some b)) Vs (Ts.take q) := HALL.out _ (HQ2.out.alloc _)
              have h3 := OwnG.snoc (g := VC.vals) (k := 6) (t := 25) (rdV n) (b := x) h2 (VAt.same HV2.out ((Only.refl _ _).alloc _)) (fun b hb => ⟨Nat.le_trans HLW.out hb, fun e => by have := (HSB.out _ e).2; omega⟩) (by rw [HLEN.out]; exact hown4) hgrow4 (by simpa using hat4)
              rw [← take_next HX.out] at h3
              exact h3)
            have HOLn : Hid (Only Nobody wl w4) := Lib.hid (HOL.out.trans_more (((HQ2.out.alloc _).mono (fun _ x => x.elim)).trans (Only.of_grown hgrow4 (fun b e => .inr (HSB.out b e).1))))
            clear hown4 hgrow4 hat4
            go_wp2_with fail
            go_roundw
            case rel => first | exact ⟨q + 1, by go_num, by omega, HOWn, HOLn⟩ | ((repeat apply Exists.intro); exact ⟨⟨q + 1, by go_num, by omega, HOWn, HOLn⟩, rfl⟩)
            case measure => simp [intOf]; omega
          · obtain rfl : q = mn := by omega
            have hlen : (Ts.take q).length = q := by rw [List.length_take, HTL.out]; omega
            have htk : Ts.take q = Ts := List.take_of_length_le (by rw [HTL.out]; exact Nat.le_refl _)
            obtain ⟨A3, c3, hsv⟩ := HOW.out.form
            rw [hlen] at hsv
            subst hsv
            have HPOST : Hid (FindPost n T L w (.returned (.tuple #[.slice A3 q c3, .int .i64 0])) wr) := Lib.hid (by
              have h0 := HOW.out
              rw [htk] at h0
              rw [← HTL.out] at h0 ⊢
              obtain ⟨V0, h1, h2⟩ := OwnG.row vlen (by omega) (rdV n) h0
              have hk := HON.out.size
              refine ⟨A3, c3, by rw [HFE.out, HFR.out], ?_, by rw [HFR.out]; exact h0.cap.2, HON.out.trans HOL.out⟩
              rw [HFR.out]
              exact ⟨V0, h1.mono (fun b _ x => Nat.le_trans hk x), h2.imp fun _ _ q => VAt.mono q (fun b _ x => Nat.le_trans hk x)⟩)
            clear hlen htk
            go_wp2_with fail
            go_ret2
            exact HPOST.out
end Go.Proofs.YtdccckoelnnnoaaDoor
