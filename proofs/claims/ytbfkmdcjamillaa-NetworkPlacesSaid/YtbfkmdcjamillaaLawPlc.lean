/- The walk of the law NetworkPlaces. -/
import Derived.Test.YtbfkmdcjamillaaPlcP
import Derived.Test.YtbfkmdcjamillaaPerf
namespace Go.Proofs.Ytbfkmdcjamillaa
open Go.RowKit Go.Maps
attribute [local go_sem ↓] Go.wp_at_zero Go.wp_at_succ

/-- What perform makes of both states. -/
theorem pl_perf {A B : NetS} {j : Nat} (h : Pl A B j) (hj : j ≤ 1000) (kd : Nat) (hk : kd = 0 ∨ kd = 2) (o : Op4) : (perfS A kd o).1 = (perfS B kd o).1 ∧ Pl (perfS A kd o).2 (perfS B kd o).2 (j + 1) := by
  unfold perfS
  rcases hk with rfl | rfl
  · rw [if_neg (by omega), if_neg (by omega), if_neg (by omega), if_neg (by omega)]
    exact pl_send h hj _ _ _ (by rw [dataS_small]; omega)
  · rw [if_pos (by omega), if_pos (by omega)]
    exact ⟨rfl, pl_step h⟩
def PcMid (w : World) (Na Nb : Nat) (A B : NetS) (v : Int) (s t : Value) (wx : World) : Prop := s = .int .i64 v ∧ t = .int .i64 v ∧ ∃ Fa Fb, Two w wx Fa Na A Fb Nb B

set_option maxRecDepth 100000 in
set_option maxHeartbeats 4000000 in
theorem lawPlc (w : World) (A0 : Option Addr) (n0 c0 : Nat) (X0 : List UInt8) (HX0 : Given w 1 A0 n0 c0 (byteVals' X0)) (A : Option Addr) (n c : Nat) (X : List Op4) (HX : Given w 4 A n c (opVals X)) (HN : X.length = n) :
    Calls Try.prog 4 #[.slice A0 n0 c0, .slice A n c] w fun e w' => e = .returned (.bool true) ∧ Below w.heap.size w w' := by
  have hnc := HX.le
  have hmx := HX.mx
  have HXX := Lib.hid HX
  have HXS := Lib.hid HX0
  have HSL : Hid (X0.length ≤ 1000000000000000) := Lib.hid (by have := given_len HX0; have := HX0.rch; have := reachBytes_lt; omega)
  clear HX HX0
  go_enter Try.func4, Try.ntmps4
  go_wp2_with fail
  have hm1 : (min (n : Int) 40).toNat = min n 40 := by omega
  have hm2 : min (n : Int) 40 = ((min n 40 : Nat) : Int) := by omega
  rw [hm1, hm2]
  obtain ⟨L, hLX⟩ : ∃ L, Hid (L = X.take (min n 40)) := ⟨_, Lib.hid rfl⟩
  have hLm : L.length = min n 40 := by rw [hLX.out, List.length_take, HN]; omega
  have hm40 : min n 40 ≤ 40 := by omega
  have hmc : min n 40 ≤ c := by omega
  clear hm1 hm2
  generalize min n 40 = m at hLX hLm hm40 hmc ⊢
  have HLM := Lib.hid hLm
  clear hLm
  refine (new_given HXS.out (Below.refl _ w)).mono ?_
  rintro e w1 ⟨Na, F1, rfl, hn1, _, hf1⟩
  have HN1 := Lib.hid hn1
  clear hn1 hf1
  go_wp2_with fail
  refine (new_given HXS.out HN1.out.bel).mono ?_
  rintro e w2 ⟨Nb, F2, rfl, hn2, ho2, hf2⟩
  have HT2 : Hid (Two w w2 F1 Na (newNet X0) F2 Nb (newNet X0)) := Lib.hid ⟨HN1.out.keep ho2 (fun _ x => x.elim) (fun _ _ x => x), hn2, fun x h1 h2 => by have := HN1.out.bd x h1; have := hf2 x h2; omega⟩
  clear hn2 ho2 hf2
  have hpn := ptr_nil
  go_wp2_with fail
  refine (known_any _).mono ?_
  rintro e w3 ⟨rfl, hb3⟩
  have HT3 := Lib.hid (HT2.out.none_ (Only.of_below hb3 Nobody))
  clear hb3
  go_wp2_with fail
  go_loopw [7] (fun i wr => ∃ (j : Nat) (Fa Fb : Nat → Prop) (SA SB : NetS), i = .int .i64 (j : Int) ∧ j ≤ m ∧ Two w wr Fa Na SA Fb Nb SB ∧ Hid (Pl SA SB j)) (fun i _ => m - (intOf i).toNat)
  case atStart => exact ⟨0, F1, F2, newNet X0, newNet X0, rfl, Nat.zero_le _, HT3.out, Lib.hid (pl_new _ HSL.out)⟩
  case round =>
    obtain ⟨j, Fa, Fb, SA, SB, rfl, hj, hn, HR⟩ := hrel
    have HNN := Lib.hid hn
    clear hn
    by_cases hjm : j < m
    · have hji : (j : Int) < (m : Int) := by omega
      have hj0 : (0 : Int) ≤ (j : Int) := by omega
      have hoj : ∃ o, L[j]? = some o := ⟨L[j]'(by rw [HLM.out]; exact hjm), List.getElem?_eq_getElem (by rw [HLM.out]; exact hjm)⟩
      obtain ⟨o, ho⟩ := hoj
      have hXo : X[j]? = some o := take_get (by rw [← hLX.out]; exact ho)
      obtain ⟨ad, rfl⟩ := ops_some HXX.out (by have := (List.getElem?_eq_some_iff.1 hXo).1; omega)
      have HC : Hid (∀ w', Below w.heap.size w w' → OpCells w' ad j o) := Lib.hid fun w' h => op_cells HXX.out hXo h
      obtain ⟨hc0, hc1, hc2, hc3⟩ := HC.out wr HNN.out.a.bel
      have HO := Lib.hid ho
      clear ho hXo
      have HNW : Hid (Two w wr.drew Fa Na SA Fb Nb SB) := Lib.hid (HNN.out.none_ (Only.refl _ _).drew)
      obtain ⟨HSA, HSB⟩ : Hid (Small SA) ∧ Hid (Small SB) := ⟨Lib.hid (HR.out.small (by omega)).1, Lib.hid (HR.out.small (by omega)).2⟩
      obtain ⟨kd, HKD⟩ : ∃ kd, Hid (kd = o.kind.toNat % 2 * 2) := ⟨_, Lib.hid rfl⟩
      have HKB : Hid (kd = 0 ∨ kd = 2) := Lib.hid (by have := HKD.out; omega)
      have hpl := @pl_perf SA SB j HR.out (by omega) kd HKB.out o
      have HE := Lib.hid hpl.1
      have HP := Lib.hid hpl.2
      clear hpl
      have tokA : True := trivial
      go_upto_region 8 with fail
      go_cut [8, 9] (fun s t wx => PcMid w Na Nb (perfS SA kd o).2 (perfS SB kd o).2 (perfS SA kd o).1 s t wx)
      case first =>
        go_region_held3 (fun w' => w'.cell? (ad.add (j * 4)) = some (.int .u8 o.kind.toNat) ∧ w'.cell? ⟨(ad.add (j * 4)).block, (ad.add (j * 4)).off + 1, none⟩ = some (.int .u8 o.from_.toNat) ∧ w'.cell? ⟨(ad.add (j * 4)).block, (ad.add (j * 4)).off + 2, none⟩ = some (.int .u8 o.to_.toNat) ∧ w'.cell? ⟨(ad.add (j * 4)).block, (ad.add (j * 4)).off + 3, none⟩ = some (.int .u8 o.data.toNat)) (first | exact ⟨hc0, hc1, hc2, hc3⟩ | exact ⟨hcc.c0, hcc.c1, hcc.c2, hcc.c3⟩) (first
          | (go_at_call 17; have _t := tokA; refine (perform_wr w _ Fa Na SA kd o HKD.out HNW.out.a HSA.out).mono ?_; rintro e w' ⟨rfl, F', hn', ho', hg'⟩; clear _t tokA; have HNX := Lib.hid (HNW.out.left hn' ho' hg'); have hcc := HC.out _ hn'.bel; clear hn' ho' hg')
          | (go_at_call 17; refine (perform_wr w _ Fb Nb SB kd o HKD.out HNX.out.b HSB.out).mono ?_; rintro e w' ⟨rfl, F'', hn', ho', hg'⟩; have HNY := Lib.hid (HNX.out.right hn' ho' hg'); have hcc := HC.out _ hn'.bel; clear hn' ho' hg'))
        all_goals
          go_wp2_with fail
          go_meet
          exact ⟨rfl, by rw [HE.out], _, _, HNY.out⟩
      case rest =>
        obtain ⟨rfl, rfl, Fa', Fb', hn'⟩ := hcut
        have HN' := Lib.hid hn'
        clear hn' hc0 hc1 hc2 hc3 HE
        generalize (perfS SA kd o).1 = v
        generalize (perfS SA kd o).2 = SA' at HN' HP
        generalize (perfS SB kd o).2 = SB' at HN' HP
        obtain ⟨_, hc1, _, _⟩ := HC.out _ HN'.out.a.bel
        have hvv : (v != v) = false := by simp
        go_wp2_with fail
        refine (placeOf_m3 _ _).mono ?_
        rintro e wa ⟨rfl, hoa⟩
        have HNA := Lib.hid (HN'.out.none_ hoa)
        clear hoa
        go_wp2_with fail
        refine (receive_net w wa Fb' Nb SB' _ HNA.out.b (HP.out.small (by omega)).2.pend (placeS_ok _)).mono ?_
        rintro e wb ⟨v', rfl, _, hnb, hob⟩
        have HNB := Lib.hid (HNA.out.right hnb hob (Grows.refl _ _))
        clear hnb hob
        go_wp2_with fail
        go_roundw
        case rel => exact ⟨j + 1, _, _, _, _, by go_num, by omega, HNB.out, Lib.hid (pl_left HP.out _ (place3 _))⟩
        case measure => simp [intOf]; omega
    · obtain rfl : m = j := by omega
      have HSP := Lib.hid (HR.out.small (by omega))
      go_wp2_with fail
      refine (placeOf_3 _).mono ?_
      rintro e wa ⟨rfl, hoa⟩
      have HNA := Lib.hid (HNN.out.none_ hoa)
      clear hoa
      go_wp2_with fail
      refine (receive_net w wa Fa Na SA _ HNA.out.a HSP.out.1.pend (placeS_ok _)).mono ?_
      rintro e wb ⟨v1, rfl, hv1, hnb, hob⟩
      have HNB := Lib.hid (HNA.out.left hnb hob (Grows.refl _ _))
      obtain ⟨A1, e1, rfl⟩ := row_form hv1
      have HV1 := Lib.hid hv1
      clear hv1 hnb hob
      go_wp2_with fail
      refine (placeOf_3 _).mono ?_
      rintro e wc ⟨rfl, hoc⟩
      have HOC := Lib.hid hoc
      have HNC := Lib.hid (HNB.out.none_ hoc)
      clear hoc
      go_wp2_with fail
      refine (receive_net w wc Fb Nb SB _ HNC.out.b HSP.out.2.pend (placeS_ok _)).mono ?_
      rintro e wd ⟨v2, rfl, hv2, hnd, hod⟩
      have HTK : Hid (netTake SA (placeS 3) = netTake SB (placeS 3)) := Lib.hid (pl_take HR.out)
      have hTL := pl_take_len HR.out (by omega)
      rw [← HTK.out] at hv2
      obtain ⟨A2, e2, rfl⟩ := row_form hv2
      have HD1 : Hid (wd.ownsRow wa.heap.size 38 2 (.slice A1 (netTake SA (placeS 3)).length e1) (netTake SA (placeS 3)).length (pksOf (netTake SA (placeS 3)))) := Lib.hid (hod.row (HOC.out.row HV1.out (fun _ _ x => x)) (fun g hg x => by
        have h1 := (HV1.out.lt g hg).1
        have h2 := HNA.out.b.bd g x
        omega))
      have HD2 := Lib.hid hv2
      have HBD := Lib.hid hnd.bel
      clear hv2 hnd hod HV1
      obtain ⟨G, hG⟩ : ∃ G, Hid (G = (netTake SA (placeS 3)).length) := ⟨_, Lib.hid rfl⟩
      have hG2 : G ≤ 2000 := by rw [hG.out]; exact hTL
      clear hTL
      rw [← hG.out]
      have HK1 : Hid (0 < G → _) := Lib.hid fun h0 => pk_at hG.out (by rw [hG.out]; exact HD1.out) h0
      have HK2 : Hid (0 < G → _) := Lib.hid fun h0 => pk_at hG.out (by rw [hG.out]; exact HD2.out) h0
      have hgg : ((G : Int) != (G : Int)) = false := by simp
      go_wp2_with fail
      go_loopw [12] (fun i wx => ∃ j : Nat, i = .int .i64 (j : Int) ∧ j ≤ G ∧ Hid (Only Nobody wd wx)) (fun i _ => G - (intOf i).toNat)
      case atStart => exact ⟨0, rfl, Nat.zero_le _, Lib.hid (Only.refl _ _)⟩
      case round =>
        obtain ⟨j, rfl, hj, HOD⟩ := hrel
        by_cases hjg : j < G
        · obtain ⟨g1, rfl, _, hg1, hn1, hx1⟩ := HK1.out (by omega)
          obtain ⟨g2, rfl, _, hg2, hn2, hx2⟩ := HK2.out (by omega)
          have hjl : j < (netTake SA (placeS 3)).length := by rw [← hG.out]; exact hjg
          obtain ⟨x, hx⟩ : ∃ x, (netTake SA (placeS 3))[j]? = some x := ⟨_, List.getElem?_eq_getElem hjl⟩
          have hp1 := hx1 j x hx
          have hp2 := hx2 j x hx
          have q10 := (HOD.out.cell (p := ⟨g1, j * 2, none⟩) hg1 (fun x => x)).trans hp1.1
          have q11 := (HOD.out.cell (p := ⟨g1, j * 2 + 1, none⟩) hg1 (fun x => x)).trans hp1.2
          have q20 := (HOD.out.cell (p := ⟨g2, j * 2, none⟩) hg2 (fun x => x)).trans hp2.1
          have q21 := (HOD.out.cell (p := ⟨g2, j * 2 + 1, none⟩) hg2 (fun x => x)).trans hp2.2
          obtain ⟨fr, HFR⟩ : ∃ fr, Hid (fr = x.fr) := ⟨_, Lib.hid rfl⟩
          obtain ⟨da, HDA⟩ : ∃ da, Hid (da = x.da) := ⟨_, Lib.hid rfl⟩
          rw [← HFR.out] at q10 q20
          rw [← HDA.out] at q11 q21
          have hji : (j : Int) < (G : Int) := by omega
          have hj0 : (0 : Int) ≤ (j : Int) := by omega
          have hn1' : (G : Int) ≤ (e1 : Int) := by omega
          have hn2' : (G : Int) ≤ (e2 : Int) := by omega
          clear hx1 hx2 hp1 hp2 hx hjl
          go_wp2_with fail
          go_region_held3 (fun w' => w'.cell? ⟨g1, j * 2, none⟩ = some (.string fr) ∧ w'.cell? ⟨g1, j * 2 + 1, none⟩ = some (.string da) ∧ w'.cell? ⟨g2, j * 2, none⟩ = some (.string fr) ∧ w'.cell? ⟨g2, j * 2 + 1, none⟩ = some (.string da)) (exact ⟨q10, q11, q20, q21⟩) (fail)
          go_wp2_with fail
          go_roundw
          case rel => exact ⟨j + 1, by go_num, by omega, Lib.hid HOD.out.drew⟩
          case measure => simp [intOf]; omega
        · go_wp2_with fail
          go_ret
          exact ⟨rfl, HBD.out.trans (HOD.out.below HBD.out.size (fun _ x => x.elim))⟩

end Go.Proofs.Ytbfkmdcjamillaa
