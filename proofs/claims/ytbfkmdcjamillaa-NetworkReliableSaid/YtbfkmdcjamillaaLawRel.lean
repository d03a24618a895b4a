/- The walk of the law NetworkReliable. -/
import Derived.Test.YtbfkmdcjamillaaRelP
import Derived.Test.YtbfkmdcjamillaaOpsW
namespace Go.Proofs.Ytbfkmdcjamillaa
open Go.RowKit Go.Maps
attribute [local go_sem ↓] Go.wp_at_zero Go.wp_at_succ

theorem new_rl (w0 w : World) (hb : Below w0.heap.size w0 w) : Calls Try.prog 16 #[.slice none 0 0] w fun e w' => ∃ N F, e = .returned (.pointer (some ⟨N, 0, none⟩)) ∧ Net w0 w' F N (rls []) ∧ Only Nobody w w' ∧ ∀ b, F b → w.heap.size ≤ b :=
  new_net w0 w none 0 0 [] hb (.inl ⟨rfl, rfl, rfl, rfl⟩) (by omega)

def RlMid (w : World) (N : Nat) (S : NetS) (s : Value) (wx : World) : Prop := ∃ F, s = .bool false ∧ Net w wx F N S

set_option maxRecDepth 100000 in
set_option maxHeartbeats 4000000 in
theorem lawRel (w : World) (A : Option Addr) (n c : Nat) (X : List Op4) (HX : Given w 4 A n c (opVals X)) (HN : X.length = n) : Calls Try.prog 7 #[.slice A n c] w fun e w' => e = .returned (.bool true) ∧ Below w.heap.size w w' := by
  have hnc := HX.le
  have hmx := HX.mx
  have HXX := Lib.hid HX
  clear HX
  go_enter Try.func7, Try.ntmps7
  go_wp2_with fail
  have hm1 : (min (n : Int) 40).toNat = min n 40 := by omega
  have hm2 : min (n : Int) 40 = ((min n 40 : Nat) : Int) := by omega
  rw [hm1, hm2]
  obtain ⟨L, hLX⟩ : ∃ L, Hid (L = X.take (min n 40)) := ⟨_, Lib.hid rfl⟩
  have hLm : L.length = min n 40 := by rw [hLX.out, List.length_take, HN]; omega
  have hm40 : min n 40 ≤ 40 := by omega
  have hmc : min n 40 ≤ c := by omega
  clear hm1 hm2
  generalize min n 40 = m at hLX hLm hm40 hmc ⊢
  have HLM := Lib.hid hLm
  clear hLm
  refine (new_rl w w (Below.refl _ w)).mono ?_
  rintro e w1 ⟨N, F1, rfl, hn1, _, _⟩
  have HN1 := Lib.hid hn1
  clear hn1
  have hpn := ptr_nil
  go_wp2_with fail
  refine (known_any _).mono ?_
  rintro e w2 ⟨rfl, hb2⟩
  have HN2 := Lib.hid (HN1.out.keep (Only.of_below hb2 Nobody) (fun _ x => x.elim) (fun _ _ x => x))
  clear hb2
  go_wp2_with fail
  go_loopw [4] (fun i wr => ∃ (j : Nat) (F : Nat → Prop), i = .int .i64 (j : Int) ∧ j ≤ m ∧ Net w wr F N (rls (L.take j)) ∧ Hid (Rl (rls (L.take j)) (L.take j))) (fun i _ => m - (intOf i).toNat)
  case atStart => exact ⟨0, F1, rfl, Nat.zero_le _, HN2.out, Lib.hid rl_nil⟩
  case round =>
    obtain ⟨j, F, rfl, hj, hn, HR⟩ := hrel
    have HNN := Lib.hid hn
    clear hn
    by_cases hjm : j < m
    · have hji : (j : Int) < (m : Int) := by omega
      have hj0 : (0 : Int) ≤ (j : Int) := by omega
      have hoj : ∃ o, L[j]? = some o := ⟨L[j]'(by rw [HLM.out]; exact hjm), List.getElem?_eq_getElem (by rw [HLM.out]; exact hjm)⟩
      obtain ⟨o, ho⟩ := hoj
      have hXo : X[j]? = some o := take_get (by rw [← hLX.out]; exact ho)
      obtain ⟨ad, rfl⟩ := ops_some HXX.out (by have := (List.getElem?_eq_some_iff.1 hXo).1; omega)
      have HC : Hid (∀ w', Below w.heap.size w w' → OpCells w' ad j o) := Lib.hid fun w' h => op_cells HXX.out hXo h
      obtain ⟨_, hc1, hc2, hc3⟩ := HC.out wr HNN.out.bel
      have HO := Lib.hid ho
      clear ho hXo
      have HSM : Hid (Small (rls (L.take j))) := Lib.hid (HR.out.good.small (by rw [List.length_take]; omega))
      have HSE : Hid (netSendAll (rls (L.take j)) (placeS (o.from_.toNat % 4)) (placeS (o.to_.toNat % 4)) (dataS o.data.toNat) = (0, rls (L.take (j + 1)))) := Lib.hid (by
        rw [take_snoc HO.out, rls_snoc]
        exact rl_send HR.out (by rw [List.length_take]; omega) o)
      have HDS : Hid ((dataS o.data.toNat).size ≤ maxLen) := Lib.hid (by rw [dataS_small]; unfold maxLen; omega)
      go_upto_region 8 with fail
      have HOW : Hid (Only Nobody wr wr.drew) := Lib.hid (Only.refl _ _).drew
      go_cut [50] (fun s wx => RlMid w N (rls (L.take (j + 1))) s wx)
      case first =>
        go_region_held3 (fun w' => w'.cell? ⟨(ad.add (j * 4)).block, (ad.add (j * 4)).off + 1, none⟩ = some (.int .u8 o.from_.toNat) ∧ w'.cell? ⟨(ad.add (j * 4)).block, (ad.add (j * 4)).off + 2, none⟩ = some (.int .u8 o.to_.toNat) ∧ w'.cell? ⟨(ad.add (j * 4)).block, (ad.add (j * 4)).off + 3, none⟩ = some (.int .u8 o.data.toNat)) (first | exact ⟨hc1, hc2, hc3⟩ | exact ⟨hcc.c1, hcc.c2, hcc.c3⟩) (first
          | (go_at_call 19; refine (placeOf_tm _ _).mono ?_; rintro e w' ⟨rfl, ho'⟩; have HOW := Lib.hid (HOW.out.trans ho'); have hcc := HC.out _ (below_of_nobody HNN.out.bel HOW.out); clear ho')
          | (go_at_call 24; refine (dataOf_any _ _).mono ?_; rintro e w' ⟨rfl, ho'⟩; have HOW := Lib.hid (HOW.out.trans ho'); have hcc := HC.out _ (below_of_nobody HNN.out.bel HOW.out); clear ho')
          | (go_at_call 20; refine (send_to w _ F N (rls (L.take j)) (rls (L.take (j + 1))) 0 _ _ _ (HNN.out.keep HOW.out (fun _ x => x.elim) (fun _ _ x => x)) HSM.out HDS.out HSE.out).mono ?_; rintro e w' ⟨rfl, F', hn', _, _⟩; have HF := Lib.hid hn'; have hcc := HC.out _ hn'.bel; clear hn'))
        all_goals
          go_wp2_with fail
          go_meet
          exact ⟨_, rfl, HF.out⟩
      case rest =>
        obtain ⟨F', rfl, hn'⟩ := hcut
        have HN' := Lib.hid hn'
        have HR' : Hid (Rl (rls (L.take (j + 1))) (L.take (j + 1))) := Lib.hid (by rw [take_snoc HO.out, rls_snoc]; exact rl_snoc HR.out (by rw [List.length_take]; omega) o)
        clear hn' hc1 hc2 hc3
        go_wp2_with fail
        go_roundw
        case rel => exact ⟨j + 1, F', by go_num, by omega, HN'.out, HR'⟩
        case measure => simp [intOf]; omega
    · obtain rfl : m = j := by omega
      have HLT : Hid (L.take m = L) := Lib.hid (List.take_of_length_le (by rw [HLM.out]; exact Nat.le_refl _))
      have HRL : Hid (Rl (rls L) L) := Lib.hid (by have := HR.out; rwa [HLT.out] at this)
      have HNL : Hid (Net w wr F N (rls L)) := Lib.hid (by have := HNN.out; rwa [HLT.out] at this)
      clear HR HNN
      go_wp2_with fail
      go_loopw [5] (fun p wx => ∃ (k : Nat) (S : NetS), p = .int .u8 (k : Int) ∧ k ≤ 4 ∧ Net w wx F N S ∧ Hid (Rl S L)) (fun p _ => 4 - (intOf p).toNat)
      case atStart => exact ⟨0, rls L, rfl, by omega, HNL.out, HRL⟩
      case round =>
        obtain ⟨k, S, rfl, hk, hn, HR⟩ := hrel
        have HNN := Lib.hid hn
        clear hn
        by_cases hk4 : k < 4
        · have hki : (k : Int) < 4 := by omega
          go_wp2_with fail
          refine (placeOf_nat k (by omega) _).mono ?_
          rintro e wa ⟨rfl, hoa⟩
          have HNA := Lib.hid (HNN.out.keep hoa (fun _ x => x.elim) (fun _ _ x => x))
          clear hoa
          go_wp2_with fail
          refine (receive_net w wa F N S (placeS k) HNA.out HR.out.good.pend (by have := placeS_small k; unfold maxLen; omega)).mono ?_
          rintro e wb ⟨v, rfl, hv, hnb, _⟩
          obtain ⟨A8, c8, hvf⟩ := row_form hv
          rw [rl_none HR.out] at hvf
          have HNB := Lib.hid hnb
          clear hv hnb
          subst hvf
          go_wp2_with fail
          go_roundw
          case rel => exact ⟨k + 1, _, by go_num, by omega, HNB.out, Lib.hid (rl_left HR.out _)⟩
          case measure => simp [intOf]; omega
        · obtain rfl : k = 4 := by omega
          go_wp2_with fail
          refine (step_net w _ F N S HNN.out (by rw [HR.out.now]; omega)).mono ?_
          rintro e wa ⟨rfl, hna, _⟩
          rw [HR.out.now] at hna
          have HNA : Hid (Net w wa F N { S with now := 1 }) := Lib.hid hna
          have HRR : Hid (Rr { S with now := 1 } L 0) := Lib.hid (rr_start HR.out)
          have HOR : Hid ((rps L).Pairwise Pc.ord) := Lib.hid HRL.out.good.rel.ord
          clear hna
          generalize ({ S with now := 1 } : NetS) = S1 at HNA HRR
          clear HR HNN
          go_wp2_with fail
          go_loopw [6] (fun p wx => ∃ (k : Nat) (S : NetS), p = .int .u8 (k : Int) ∧ k ≤ 4 ∧ Net w wx F N S ∧ Hid (Rr S L k)) (fun p _ => 4 - (intOf p).toNat)
          case atStart => exact ⟨0, S1, rfl, by omega, HNA.out, HRR⟩
          case round =>
            obtain ⟨k, S, rfl, hk, hn, HR⟩ := hrel
            have HNN := Lib.hid hn
            clear hn
            by_cases hk4 : k < 4
            · have hki : (k : Int) < 4 := by omega
              go_wp2_with fail
              refine (placeOf_nat k (by omega) _).mono ?_
              rintro e wa ⟨rfl, hoa⟩
              have HNA := Lib.hid (HNN.out.keep hoa (fun _ x => x.elim) (fun _ _ x => x))
              clear hoa
              go_wp2_with fail
              refine (receive_net w wa F N S (placeS k) HNA.out HR.out.good.pend (by have := placeS_small k; unfold maxLen; omega)).mono ?_
              rintro e wb ⟨v, rfl, hv, hnb, _⟩
              rw [rr_take HR.out HOR.out hk4] at hv
              obtain ⟨A8, c8, rfl⟩ := row_form hv
              have HNB := Lib.hid hnb
              have HV := Lib.hid hv
              have HRB : Hid (Rr (netLeft S (placeS k)) L (k + 1)) := Lib.hid (rr_left HR.out)
              clear hv hnb
              generalize netLeft S (placeS k) = S2 at HNB HRB
              obtain ⟨G, hG⟩ : ∃ G, Hid (G = (rgot L (placeS k)).length) := ⟨_, Lib.hid rfl⟩
              have hG40 : G ≤ 40 := by rw [hG.out, rgot_len]; exact Nat.le_trans List.countP_le_length (by rw [HLM.out]; omega)
              rw [← hG.out]
              have HGA : Hid (0 < G → ∃ g, A8 = some ⟨g, 0, none⟩ ∧ wa.heap.size ≤ g ∧ g < wb.heap.size ∧ G ≤ c8 ∧ ∀ i c, (rgot L (placeS k))[i]? = some c → wb.cell? ⟨g, i * 2, none⟩ = some (.string c.fr) ∧ wb.cell? ⟨g, i * 2 + 1, none⟩ = some (.string c.da)) := Lib.hid fun h0 => pk_at hG.out (by rw [hG.out]; exact HV.out) h0
              go_wp2_with fail
              go_loopw [8, 9] (fun a i wx => ∃ (j a' : Nat), i = .int .i64 (j : Int) ∧ j ≤ m ∧ a = .int .i64 (a' : Int) ∧ Hid (a' = cntTo (L.take j) (placeS k)) ∧ Net w wx F N S2 ∧ Hid (Only Nobody wb wx)) (fun _ i _ => m - (intOf i).toNat)
              case atStart => exact ⟨0, 0, rfl, Nat.zero_le _, rfl, Lib.hid rfl, HNB.out, Lib.hid (Only.refl _ _)⟩
              case round =>
                obtain ⟨j, a, rfl, hj, rfl, HA, hn, HOB⟩ := hrel
                have HNN := Lib.hid hn
                clear hn
                have ha40 : a ≤ 40 := by rw [HA.out]; exact Nat.le_trans List.countP_le_length (by rw [List.length_take]; omega)
                by_cases hjm : j < m
                · have hji : (j : Int) < (m : Int) := by omega
                  have hj0 : (0 : Int) ≤ (j : Int) := by omega
                  have hoj : ∃ o, L[j]? = some o := ⟨L[j]'(by rw [HLM.out]; exact hjm), List.getElem?_eq_getElem (by rw [HLM.out]; exact hjm)⟩
                  obtain ⟨o, ho⟩ := hoj
                  have hXo : X[j]? = some o := take_get (by rw [← hLX.out]; exact ho)
                  obtain ⟨ad, rfl⟩ := ops_some HXX.out (by have := (List.getElem?_eq_some_iff.1 hXo).1; omega)
                  have HC : Hid (∀ w', Below w.heap.size w w' → OpCells w' ad j o) := Lib.hid fun w' h => op_cells HXX.out hXo h
                  obtain ⟨_, hc1, hc2, hc3⟩ := HC.out _ HNN.out.bel
                  have HO := Lib.hid ho
                  have hcs : cntTo (L.take (j + 1)) (placeS k) = cntTo (L.take j) (placeS k) + if o.tp = placeS k then 1 else 0 := by
                    rw [take_snoc ho]; unfold cntTo; rw [List.countP_append]; simp [List.countP_cons]
                  have HCS := Lib.hid hcs
                  clear ho hXo hcs
                  by_cases hto : o.to_.toNat % 4 = k
                  · have HTP : Hid (o.tp = placeS k) := Lib.hid (by unfold Op4.tp; rw [hto])
                    have hti : (o.to_.toNat : Int) % 4 = (k : Int) := by omega
                    clear hto
                    have HGT : Hid ((rgot L (placeS k))[a]? = some ⟨1, j, 0, placeS (o.from_.toNat % 4), dataS o.data.toNat⟩) := Lib.hid (by
                      have := rgot_at HO.out
                      rw [HTP.out, ← HA.out] at this
                      exact this)
                    have haG : a < G := by rw [hG.out]; exact (List.getElem?_eq_some_iff.1 HGT.out).1
                    obtain ⟨g, rfl, hg1, hg2, hgc, hgx⟩ := HGA.out (by omega)
                    have hgn := hgx a _ HGT.out
                    have HQ : Hid (∀ w', Only Nobody wb w' → w'.cell? ⟨g, a * 2, none⟩ = some (.string (placeS (o.from_.toNat % 4))) ∧ w'.cell? ⟨g, a * 2 + 1, none⟩ = some (.string (dataS o.data.toNat))) := Lib.hid fun w' h =>
                      ⟨(h.cell (p := ⟨g, a * 2, none⟩) hg2 (fun x => x)).trans hgn.1, (h.cell (p := ⟨g, a * 2 + 1, none⟩) hg2 (fun x => x)).trans hgn.2⟩
                    obtain ⟨hq0, hq1⟩ := HQ.out _ HOB.out
                    have haI : (a : Int) < (G : Int) := by omega
                    have ha0 : (0 : Int) ≤ (a : Int) := by omega
                    have hgI : (G : Int) ≤ (c8 : Int) := by omega
                    have hd1 : decide (G ≤ a) = false := by simp; omega
                    have hd2 : decide ((G : Int) ≤ (a : Int)) = false := by simp; omega
                    clear hgx hgn
                    go_upto_region 25 with fail
                    have HOW : Hid (Only Nobody wb wr.drew) := Lib.hid HOB.out.drew
                    go_cut [109] (fun s wx => s = .bool false ∧ Only Nobody wb wx)
                    case first =>
                      go_region_held3 (fun w' => w'.cell? ⟨g, a * 2, none⟩ = some (.string (placeS (o.from_.toNat % 4))) ∧ w'.cell? ⟨g, a * 2 + 1, none⟩ = some (.string (dataS o.data.toNat)) ∧ w'.cell? ⟨(ad.add (j * 4)).block, (ad.add (j * 4)).off + 1, none⟩ = some (.int .u8 o.from_.toNat) ∧ w'.cell? ⟨(ad.add (j * 4)).block, (ad.add (j * 4)).off + 3, none⟩ = some (.int .u8 o.data.toNat)) (first | exact ⟨hq0, hq1, hc1, hc3⟩ | exact ⟨hqq.1, hqq.2, hcc.c1, hcc.c3⟩) (first
                        | (go_at_call 19; refine (placeOf_tm _ _).mono ?_; rintro e w' ⟨rfl, ho'⟩; have HOW := Lib.hid (HOW.out.trans ho'); have hcc := HC.out _ (below_of_nobody HNB.out.bel HOW.out); have hqq := HQ.out _ HOW.out; clear ho')
                        | (go_at_call 24; refine (dataOf_any _ _).mono ?_; rintro e w' ⟨rfl, ho'⟩; have HOW := Lib.hid (HOW.out.trans ho'); have hcc := HC.out _ (below_of_nobody HNB.out.bel HOW.out); have hqq := HQ.out _ HOW.out; clear ho'))
                      all_goals
                        go_wp2_with fail
                        go_meet
                        exact ⟨rfl, HOW.out⟩
                    case rest =>
                      obtain ⟨rfl, hoc⟩ := hcut
                      have HOC := Lib.hid hoc
                      have HNC : Hid (Net w wc F N S2) := Lib.hid (HNB.out.keep hoc (fun _ x => x.elim) (fun _ _ x => x))
                      clear hoc hc1 hc2 hc3 hq0 hq1
                      go_wp2_with fail
                      go_roundw
                      case rel => exact ⟨j + 1, a + 1, by go_num, by omega, by go_num, Lib.hid (by rw [HCS.out, if_pos HTP.out, HA.out]), HNC.out, HOC⟩
                      case measure => simp [intOf]; omega
                  · have HTP : Hid (o.tp ≠ placeS k) := Lib.hid (by unfold Op4.tp; intro e; exact hto (placeS_inj (by omega) hk4 e))
                    have hti : ¬ (o.to_.toNat : Int) % 4 = (k : Int) := by omega
                    clear hto
                    go_wp2_with fail
                    go_roundw
                    case rel => exact ⟨j + 1, a, by go_num, by omega, rfl, Lib.hid (by rw [HCS.out, if_neg HTP.out, HA.out]; rfl), HNN.out, HOB⟩
                    case measure => simp [intOf]; omega
                · obtain rfl : m = j := by omega
                  have HAG : Hid (a = G) := Lib.hid (by rw [HA.out, hG.out, rgot_len, HLT.out])
                  obtain rfl := HAG.out
                  clear HAG
                  go_wp2_with fail
                  refine (placeOf_nat k (by omega) _).mono ?_
                  rintro e wd ⟨rfl, hod⟩
                  have HND := Lib.hid (HNN.out.keep hod (fun _ x => x.elim) (fun _ _ x => x))
                  clear hod
                  go_wp2_with fail
                  refine (receive_net w wd F N S2 (placeS k) HND.out HRB.out.good.pend (by have := placeS_small k; unfold maxLen; omega)).mono ?_
                  rintro e we ⟨v, rfl, hv, hne, _⟩
                  obtain ⟨A9, c9, hvf⟩ := row_form hv
                  rw [rr_none HRB.out] at hvf
                  have HNE := Lib.hid hne
                  clear hv hne
                  subst hvf
                  go_wp2_with fail
                  go_roundw
                  case rel => exact ⟨k + 1, _, by go_num, by omega, HNE.out, Lib.hid (rr_same HRB.out)⟩
                  case measure => simp [intOf]; omega
            · obtain rfl : k = 4 := by omega
              go_wp2_with fail
              refine (pending_net w _ F N S HNN.out HR.out.good.pend).mono ?_
              rw [rr_pend HR.out]
              rintro e wa ⟨rfl, hna, _⟩
              have HNA := Lib.hid hna
              clear hna
              go_wp2_with fail
              refine (lost_at N F S wa HNA.out.at_).mono ?_
              rw [HR.out.lost]
              rintro e w' ⟨rfl, rfl⟩
              go_wp2_with fail
              refine (sent_at N F S wa HNA.out.at_).mono ?_
              rw [HR.out.sent, HLM.out]
              rintro e w' ⟨rfl, rfl⟩
              go_wp2_with fail
              go_ret
              exact ⟨rfl, HNA.out.bel⟩

end Go.Proofs.Ytbfkmdcjamillaa
