/- The walk of the law NetworkArrives. -/
import Derived.Test.YtbfkmdcjamillaaArrP
import Derived.Test.YtbfkmdcjamillaaNumb
import Derived.Test.YtbfkmdcjamillaaPerf
namespace Go.Proofs.Ytbfkmdcjamillaa
open Go.RowKit Go.Maps
attribute [local go_sem ↓] Go.wp_at_zero Go.wp_at_succ

def ArMid (w : World) (N : Nat) (S : NetS) (s : Value) (wx : World) : Prop := ∃ F, s = .bool false ∧ Net w wx F N S
theorem below_grow {w0 w w' : World} {g : Nat} (hb : Below w0.heap.size w0 w) (ho : Only (· = g) w w') (hg : w0.heap.size ≤ g) : Below w0.heap.size w0 w' := hb.trans (ho.below hb.size (fun k e => by subst e; exact hg))

set_option maxRecDepth 100000 in
set_option maxHeartbeats 6000000 in
theorem lawArr (w : World) (A0 : Option Addr) (n0 c0 : Nat) (X0 : List UInt8) (HX0 : Given w 1 A0 n0 c0 (byteVals' X0)) (A : Option Addr) (n c : Nat) (X : List Op4) (HX : Given w 4 A n c (opVals X)) (HN : X.length = n) :
    Calls Try.prog 8 #[.slice A0 n0 c0, .slice A n c] w fun e w' => e = .returned (.bool true) ∧ Below w.heap.size w w' := by
  have hnc := HX.le
  have hmx := HX.mx
  have hnc0 := HX0.le
  have hmx0 := HX0.mx
  have HXX := Lib.hid HX
  have HXS := Lib.hid HX0
  have HSL : Hid (X0.length ≤ 1000000000000000) := Lib.hid (by have := given_len HX0; have := HX0.rch; have := reachBytes_lt; omega)
  have HL0 := Lib.hid (given_len HX0)
  clear HX HX0
  go_enter Try.func8, Try.ntmps8
  go_wp2_with fail
  have hm1 : (min (n : Int) 60).toNat = min n 60 := by omega
  have hm2 : min (n : Int) 60 = ((min n 60 : Nat) : Int) := by omega
  rw [hm1, hm2]
  obtain ⟨L, hLX⟩ : ∃ L, Hid (L = X.take (min n 60)) := ⟨_, Lib.hid rfl⟩
  have hLm : L.length = min n 60 := by rw [hLX.out, List.length_take, HN]; omega
  have hm60 : min n 60 ≤ 60 := by omega
  have hmc : min n 60 ≤ c := by omega
  clear hm1 hm2
  generalize min n 60 = m at hLX hLm hm60 hmc ⊢
  have HLM := Lib.hid hLm
  clear hLm
  refine (new_given HXS.out (Below.refl _ w)).mono ?_
  rintro e w1 ⟨N, F1, rfl, hn1, _, _⟩
  have HN1 := Lib.hid hn1
  clear hn1
  have hpn := ptr_nil
  go_wp2_with fail
  refine (known_any _).mono ?_
  rintro e w2 ⟨rfl, hb2⟩
  have HN2 := Lib.hid (HN1.out.keep (Only.of_below hb2 Nobody) (fun _ x => x.elim) (fun _ _ x => x))
  clear hb2
  go_wp2_with fail
  go_loopw [6] (fun i wr => ∃ (j q : Nat) (F : Nat → Prop) (S : NetS) (P : List Pc), i = .int .i64 (j : Int) ∧ j ≤ m ∧ Net w wr F N S ∧ Hid (Ar X0 L S P j q) ∧ q ≤ 2 * j) (fun i _ => m - (intOf i).toNat)
  case atStart => exact ⟨0, 0, F1, newNet X0, [], rfl, Nat.zero_le _, HN2.out, Lib.hid (ar_new _ _ HSL.out), by omega⟩
  case round =>
    obtain ⟨j, q, F, S, P, rfl, hj, hn, HR, hq⟩ := hrel
    have HNN := Lib.hid hn
    clear hn
    by_cases hjm : j < m
    · have hji : (j : Int) < (m : Int) := by omega
      have hj0 : (0 : Int) ≤ (j : Int) := by omega
      have hj255 : (j : Int) ≤ 255 := by omega
      have hoj : ∃ o, L[j]? = some o := ⟨L[j]'(by rw [HLM.out]; exact hjm), List.getElem?_eq_getElem (by rw [HLM.out]; exact hjm)⟩
      obtain ⟨o, ho⟩ := hoj
      have hXo : X[j]? = some o := take_get (by rw [← hLX.out]; exact ho)
      obtain ⟨ad, rfl⟩ := ops_some HXX.out (by have := (List.getElem?_eq_some_iff.1 hXo).1; omega)
      have HC : Hid (∀ w', Below w.heap.size w w' → OpCells w' ad j o) := Lib.hid fun w' h => op_cells HXX.out hXo h
      obtain ⟨_, hc1, hc2, hc3⟩ := HC.out wr HNN.out.bel
      have hsd := ar_send HR.out (by omega) ho
      have HO := Lib.hid ho
      have HSM : Hid (Small S) := Lib.hid (HR.out.good.small (by omega))
      obtain ⟨S', HS'⟩ : ∃ S', Hid (S' = netOk S o.fr o.tp (dataS j)) := ⟨_, Lib.hid rfl⟩
      obtain ⟨P', HP'⟩ : ∃ P', Hid (P' = P ++ newP S o.fr o.tp (dataS j) (S.copies o.fr o.tp) (S.copies o.fr o.tp).length) := ⟨_, Lib.hid rfl⟩
      rw [← HS'.out, ← HP'.out] at hsd
      have HSE : Hid (netSendAll S (placeS (o.from_.toNat % 4)) (placeS (o.to_.toNat % 4)) (dataS j) = (0, S')) := Lib.hid hsd.1
      have HR' : Hid (Ar X0 L S' P' (j + 1) (q + 1)) := Lib.hid hsd.2
      clear hsd HS' HP' ho hXo
      have HDS : Hid ((dataS j).size ≤ maxLen) := Lib.hid (dataS_ok _)
      have hwj : IntKind.u8.wrap (j : Int) = (j : Int) := IntWalk.u8_in _ (by omega)
      go_upto_region 8 with fail
      have HOW : Hid (Only Nobody wr wr.drew) := Lib.hid (Only.refl _ _).drew
      go_cut [55] (fun s wx => ArMid w N S' s wx)
      case first =>
        go_region_held3 (fun w' => w'.cell? ⟨(ad.add (j * 4)).block, (ad.add (j * 4)).off + 1, none⟩ = some (.int .u8 o.from_.toNat) ∧ w'.cell? ⟨(ad.add (j * 4)).block, (ad.add (j * 4)).off + 2, none⟩ = some (.int .u8 o.to_.toNat)) (first | exact ⟨hc1, hc2⟩ | exact ⟨hcc.c1, hcc.c2⟩) (first
          | (go_at_call 19; refine (placeOf_tm _ _).mono ?_; rintro e w' ⟨rfl, ho'⟩; have HOW := Lib.hid (HOW.out.trans ho'); have hcc := HC.out _ (below_of_nobody HNN.out.bel HOW.out); clear ho')
          | (go_at_call 24; refine (dataOf_nat j (by omega) _).mono ?_; rintro e w' ⟨rfl, ho'⟩; have HOW := Lib.hid (HOW.out.trans ho'); have hcc := HC.out _ (below_of_nobody HNN.out.bel HOW.out); clear ho')
          | (go_at_call 20; refine (send_to w _ F N S S' 0 _ _ _ (HNN.out.keep HOW.out (fun _ x => x.elim) (fun _ _ x => x)) HSM.out HDS.out HSE.out).mono ?_; rintro e w' ⟨rfl, F', hn', _, _⟩; have HF := Lib.hid hn'; have hcc := HC.out _ hn'.bel; clear hn'))
        all_goals
          go_wp2_with fail
          go_meet
          exact ⟨_, rfl, HF.out⟩
      case rest =>
        obtain ⟨F', rfl, hn'⟩ := hcut
        have HN' := Lib.hid hn'
        clear hn' hc1 hc2 hc3 hwj
        obtain ⟨hc0, _, _, _⟩ := HC.out _ HN'.out.bel
        by_cases hk : o.kind.toNat % 4 = 0
        · have hki : (o.kind.toNat : Int) % 4 = 0 := by omega
          clear hk
          go_wp2_with fail
          refine (step_net w _ F' N S' HN'.out (HR'.out.good.small (by omega)).now).mono ?_
          rintro e wa ⟨rfl, hna, _⟩
          have HNA := Lib.hid hna
          clear hna
          go_wp2_with fail
          go_roundw
          case rel => exact ⟨j + 1, q + 2, F', _, P', by go_num, by omega, HNA.out, Lib.hid (ar_step HR'.out), by omega⟩
          case measure => simp [intOf]; omega
        · have hki : ¬ (o.kind.toNat : Int) % 4 = 0 := by omega
          clear hk
          go_wp2_with fail
          go_roundw
          case rel => exact ⟨j + 1, q + 1, F', S', P', by go_num, by omega, HN'.out, HR', by omega⟩
          case measure => simp [intOf]; omega
    · obtain rfl : m = j := by omega
      have HAT : Hid (∀ p ∈ P, p.at_ ≤ (S.now : Int) + 8) := Lib.hid HR.out.at_
      obtain ⟨T, HT⟩ : ∃ T, Hid (T = S.now) := ⟨_, Lib.hid rfl⟩
      rw [← HT.out] at HAT
      go_wp2_with fail
      go_loopw [7] (fun p wx => ∃ (k : Nat) (S : NetS), p = .int .i64 (k : Int) ∧ k ≤ 8 ∧ Net w wx F N S ∧ Hid (Ar X0 L S P m (q + k)) ∧ Hid (S.now = T + k)) (fun p _ => 8 - (intOf p).toNat)
      case atStart => exact ⟨0, S, rfl, by omega, HNN.out, HR, Lib.hid HT.out.symm⟩
      case round =>
        obtain ⟨k, S1, rfl, hk, hn, HR1, HT1⟩ := hrel
        have HN1 := Lib.hid hn
        clear hn
        by_cases hk8 : k < 8
        · have hki : (k : Int) < 8 := by omega
          go_wp2_with fail
          refine (step_net w _ F N S1 HN1.out (HR1.out.good.small (by omega)).now).mono ?_
          rintro e wa ⟨rfl, hna, _⟩
          have HNA := Lib.hid hna
          clear hna
          go_wp2_with fail
          go_roundw
          case rel => exact ⟨k + 1, _, by go_num, by omega, HNA.out, Lib.hid (ar_step HR1.out), Lib.hid (by show S1.now + 1 = _; rw [HT1.out]; omega)⟩
          case measure => simp [intOf]; omega
        · obtain rfl : k = 8 := by omega
          have HAF : Hid (Af X0 L S1 P 0 200) := Lib.hid (af_start (by rw [HLM.out]; exact HR1.out) (fun p hp => by have := HAT.out p hp; have := HT1.out; omega) (by omega))
          clear HR1 HT1 HAT HT HR HNN
          obtain ⟨W, HW⟩ : ∃ W : World, Hid (wr = W) := ⟨_, Lib.hid rfl⟩
          have hmk := make_ints m (by omega)
          go_wp2_with fail
          obtain ⟨g, HG⟩ : ∃ g, Hid (g = wr.heap.size) := ⟨_, Lib.hid rfl⟩
          have HBK : Hid (Blk (wr.alloc (.cells (zeroI m) 3)) g 3 (seenL P 0 m []).toArray) := Lib.hid (by rw [HG.out, seenL_start, ← zeroI_eq]; exact Blk.new _ _ _)
          have HN3 : Hid (Net w (wr.alloc (.cells (zeroI m) 3)) F N S1) := Lib.hid (HN1.out.keep (F := F) ((Only.refl Nobody _).alloc _) (fun _ x => x.elim) (fun _ _ x => x))
          have HGF : Hid (¬ F g) := Lib.hid (fun h => by have := HN1.out.bd g h; have := HG.out; omega)
          have HGW : Hid (w.heap.size ≤ g) := Lib.hid (by rw [HG.out]; exact HN1.out.bel.size)
          rw [← HG.out]
          generalize wr.alloc (.cells (zeroI m) 3) = w3 at HBK HN3 ⊢
          clear HW hmk
          go_loopw [9] (fun p wx => ∃ (k : Nat) (S : NetS), p = .int .u8 (k : Int) ∧ k ≤ 4 ∧ Net w wx F N S ∧ Hid (Af X0 L S P k 200) ∧ Hid (Blk wx g 3 (seenL P k m []).toArray)) (fun p _ => 4 - (intOf p).toNat)
          case atStart => exact ⟨0, S1, rfl, by omega, HN3.out, HAF, HBK⟩
          case round =>
            obtain ⟨k, S, rfl, hk, hn, HR, HB⟩ := hrel
            have HNN := Lib.hid hn
            clear hn
            by_cases hk4 : k < 4
            · have hki : (k : Int) < 4 := by omega
              go_wp2_with fail
              refine (placeOf_nat k (by omega) _).mono ?_
              rintro e wa ⟨rfl, hoa⟩
              have HNA := Lib.hid (HNN.out.keep hoa (fun _ x => x.elim) (fun _ _ x => x))
              have HBA := Lib.hid (hoa.blk HB.out (fun x => x))
              clear hoa
              go_wp2_with fail
              refine (receive_net w wa F N S (placeS k) HNA.out HR.out.good.pend (placeS_ok _)).mono ?_
              rintro e wb ⟨v, rfl, hv, hnb, hob⟩
              obtain ⟨A8, c8, rfl⟩ := row_form hv
              have HNB := Lib.hid hnb
              have HV := Lib.hid hv
              have HBB := Lib.hid (hob.blk HBA.out HGF.out)
              have HRB : Hid (Af X0 L (netLeft S (placeS k)) P (k + 1) 200) := Lib.hid (af_left HR.out)
              have HSN : Hid (seenL P k m (netTake S (placeS k)) = seenL P (k + 1) m []) := Lib.hid (seenL_next HR.out hk4 m)
              have HGOT : Hid (∀ c ∈ netTake S (placeS k), ∃ (i : Nat) (o : Op4), L[i]? = some o ∧ c.pk = i ∧ c.fr = o.fr ∧ o.to_.toNat % 4 = k ∧ c.da = dataS i) := Lib.hid fun c hc => af_got HR.out hk4 hc
              have hTL : (netTake S (placeS k)).length ≤ 200 := by have := af_take_len HR.out hk4; have := HLM.out; omega
              have hGL : g < wa.heap.size := HBA.out.lt
              clear hv hnb hob
              generalize netLeft S (placeS k) = S2 at HNB HRB
              obtain ⟨got, HGT⟩ : ∃ got, Hid (got = netTake S (placeS k)) := ⟨_, Lib.hid rfl⟩
              rw [← HGT.out] at HV HSN HGOT hTL ⊢
              obtain ⟨G, hG⟩ : ∃ G, Hid (G = got.length) := ⟨_, Lib.hid rfl⟩
              have hG200 : G ≤ 200 := by rw [hG.out]; exact hTL
              clear hTL HGT
              rw [← hG.out]
              have HGA : Hid (0 < G → _) := Lib.hid fun h0 => pk_at hG.out (by rw [hG.out]; exact HV.out) h0
              go_wp2_with fail
              go_loopw [11] (fun i wx => ∃ t : Nat, i = .int .i64 (t : Int) ∧ t ≤ G ∧ Net w wx F N S2 ∧ Hid (Blk wx g 3 (seenL P k m (got.take t)).toArray) ∧ Hid (Only (· = g) wb wx)) (fun i _ => G - (intOf i).toNat)
              case atStart => exact ⟨0, rfl, Nat.zero_le _, HNB.out, Lib.hid (by rw [List.take_zero]; exact HBB.out), Lib.hid (Only.refl _ _)⟩
              case round =>
                obtain ⟨t, rfl, ht, hn, HBT, HOT⟩ := hrel
                have HNT := Lib.hid hn
                clear hn
                by_cases htg : t < G
                · have hti : (t : Int) < (G : Int) := by omega
                  have ht0 : (0 : Int) ≤ (t : Int) := by omega
                  obtain ⟨gx, rfl, hgx1, hgx2, hgc, hcx⟩ := HGA.out (by omega)
                  have hgI : (G : Int) ≤ (c8 : Int) := by omega
                  have hgne : gx ≠ g := by omega
                  obtain ⟨x, hx⟩ : ∃ x, got[t]? = some x := ⟨got[t]'(by rw [← hG.out]; exact htg), List.getElem?_eq_getElem _⟩
                  have hxm : x ∈ got := List.mem_of_getElem? hx
                  obtain ⟨i, o, hLi, hpk, hfr, hto, hda⟩ := HGOT.out x hxm
                  have hcc := hcx t x hx
                  rw [hfr, hda] at hcc
                  have him : i < m := by rw [← HLM.out]; exact (List.getElem?_eq_some_iff.1 hLi).1
                  have hXo : X[i]? = some o := take_get (by rw [← hLX.out]; exact hLi)
                  obtain ⟨ad, rfl⟩ := ops_some HXX.out (by have := (List.getElem?_eq_some_iff.1 hXo).1; omega)
                  have HC : Hid (∀ w', Below w.heap.size w w' → OpCells w' ad i o) := Lib.hid fun w' h => op_cells HXX.out hXo h
                  have HQ : Hid (∀ w', Only (· = g) wb w' → w'.cell? ⟨gx, t * 2, none⟩ = some (.string (placeS (o.from_.toNat % 4))) ∧ w'.cell? ⟨gx, t * 2 + 1, none⟩ = some (.string (dataS i))) := Lib.hid fun w' h =>
                    ⟨(h.cell (p := ⟨gx, t * 2, none⟩) hgx2 hgne).trans hcc.1, (h.cell (p := ⟨gx, t * 2 + 1, none⟩) hgx2 hgne).trans hcc.2⟩
                  obtain ⟨hq0, hq1⟩ := HQ.out _ HOT.out
                  have HSNOC : Hid (seenL P k m (got.take (t + 1)) = (seenL P k m (got.take t)).set i (Value.int .i64 (((sc P k i + (got.take t).countP (fun c => pkB i c.pk) : Nat) : Int) + 1))) := Lib.hid (by
                    have e : got.take (t + 1) = got.take t ++ [x] := by rw [List.take_add_one, hx]; rfl
                    rw [e]
                    exact seenL_snoc P k m (got.take t) x i hpk)
                  have HTO : Hid (o.to_.toNat % 4 = k) := Lib.hid hto
                  have HLE : Hid (P.length ≤ 200) := Lib.hid (by have := HR.out.len; have := HLM.out; omega)
                  have HTL : Hid ((got.take t).length ≤ 200) := Lib.hid (by rw [List.length_take]; omega)
                  clear hx hxm hLi hpk hfr hto hda hcc hXo hcx
                  have hii : (i : Int) < (m : Int) := by omega
                  have hi0 : (0 : Int) ≤ (i : Int) := by omega
                  have hmcI : (m : Int) ≤ (c : Int) := by omega
                  go_wp2_with fail
                  refine (numberOf_data i (by omega) _).mono ?_
                  rintro e wq ⟨rfl, hoc⟩
                  have HNC := Lib.hid (HNT.out.keep hoc (fun _ x => x.elim) (fun _ _ x => x))
                  have HOC := Lib.hid (HOT.out.trans (hoc.mono (fun _ x => x.elim)))
                  have HBC := Lib.hid (hoc.blk HBT.out (fun x => x))
                  clear hoc hq0 hq1
                  obtain ⟨hq0, hq1⟩ := HQ.out _ HOC.out
                  obtain ⟨_, hc1, hc2, _⟩ := HC.out _ HNC.out.bel
                  have hd1 : decide ((i : Int) < 0) = false := by simp
                  have hd2 : decide (m ≤ i) = false := by simp; omega
                  have hd3 : decide ((m : Int) ≤ (i : Int)) = false := by simp; omega
                  have hd4 : ((o.to_.toNat : Int).tmod 4 != (k : Int)) = false := by
                    have e : (o.to_.toNat : Int).tmod 4 = ((o.to_.toNat % 4 : Nat) : Int) := rfl
                    rw [e, HTO.out]; simp
                  have hd5 : ((o.to_.toNat : Int) % 4 != (k : Int)) = false := by
                    have e : (o.to_.toNat : Int) % 4 = ((o.to_.toNat % 4 : Nat) : Int) := rfl
                    rw [e, HTO.out]; simp
                  go_upto_region 25 with fail
                  have HOW : Hid (Only (· = g) wb wq.drew) := Lib.hid HOC.out.drew
                  have HOWn : Hid (Only Nobody wq wq.drew) := Lib.hid (Only.refl _ _).drew
                  go_cut [126] (fun s wx => s = .bool false ∧ Only Nobody wq wx)
                  case first =>
                    go_region_held3 (fun w' => w'.cell? ⟨gx, t * 2, none⟩ = some (.string (placeS (o.from_.toNat % 4))) ∧ w'.cell? ⟨(ad.add (i * 4)).block, (ad.add (i * 4)).off + 1, none⟩ = some (.int .u8 o.from_.toNat) ∧ w'.cell? ⟨(ad.add (i * 4)).block, (ad.add (i * 4)).off + 2, none⟩ = some (.int .u8 o.to_.toNat)) (first | exact ⟨hq0, hc1, hc2⟩ | exact ⟨hqq.1, hcc.c1, hcc.c2⟩) (first
                      | (go_at_call 19; refine (placeOf_tm _ _).mono ?_; rintro e w' ⟨rfl, ho'⟩; have HOWn := Lib.hid (HOWn.out.trans ho'); have hqq := HQ.out _ (HOW.out.trans (ho'.mono (fun _ x => x.elim))); have hcc := HC.out _ (below_of_nobody HNC.out.bel HOWn.out); clear ho'))
                    all_goals
                      go_wp2_with fail
                      go_meet
                      exact ⟨rfl, HOWn.out⟩
                  case rest =>
                    obtain ⟨rfl, hod⟩ := hcut
                    have HND : Hid (Net w wc F N S2) := Lib.hid (HNC.out.keep hod (fun _ x => x.elim) (fun _ _ x => x))
                    have HOD := Lib.hid (HOC.out.trans (hod.mono (fun _ x => x.elim)))
                    have HBD := Lib.hid (hod.blk HBC.out (fun x => x))
                    clear hod hq0 hq1 hc1 hc2 hd1 hd2 hd3 hd4 hd5
                    obtain ⟨sv, HSV⟩ : ∃ sv, Hid (sv = sc P k i + (got.take t).countP (fun c => pkB i c.pk)) := ⟨_, Lib.hid rfl⟩
                    have hsv : sv ≤ 400 := by
                      rw [HSV.out]
                      have h1 := sc_le P k i
                      have h2 : (got.take t).countP (fun c => pkB i c.pk) ≤ (got.take t).length := List.countP_le_length
                      have := HLE.out
                      have := HTL.out
                      omega
                    have hsc : wc.cell? ⟨g, i, none⟩ = some (.int .i64 (sv : Int)) := by
                      rw [HBD.out.cell, HSV.out, List.getElem?_toArray]
                      exact seenL_get P k m (got.take t) i him
                    have hsf : wc.frozen? ⟨g, i, none⟩ = false := HBD.out.frozen i
                    rw [← HSV.out] at HSNOC
                    have HOG : Hid (Only (· = g) wb (wc.setCell ⟨g, i, none⟩ (.int .i64 ((sv : Int) + 1)))) := Lib.hid (HOD.out.setCell (p := ⟨g, i, none⟩) (.inl rfl) _)
                    have HBE : Hid (Blk (wc.setCell ⟨g, i, none⟩ (.int .i64 ((sv : Int) + 1))) g 3 (seenL P k m (got.take (t + 1))).toArray) := Lib.hid (by
                      have := HBD.out.set_ i (.int .i64 ((sv : Int) + 1))
                      rw [HSNOC.out]
                      simpa using this)
                    have HNE : Hid (Net w (wc.setCell ⟨g, i, none⟩ (.int .i64 ((sv : Int) + 1))) F N S2) := Lib.hid (HND.out.keep (G := (· = g)) ((Only.refl (fun x => x = g) wc).setCell (p := ⟨g, i, none⟩) (.inl rfl) _) (fun b e => by subst e; exact HGW.out) (fun b hb e => by subst e; exact HGF.out hb))
                    go_wp2_with fail
                    go_roundw
                    case rel => exact ⟨t + 1, by go_num, by omega, HNE.out, HBE, HOG⟩
                    case measure => simp [intOf]; omega
                · obtain rfl : G = t := by omega
                  have HBF : Hid (Blk wr g 3 (seenL P (k + 1) m []).toArray) := Lib.hid (by
                    have := HBT.out
                    rw [List.take_of_length_le (by rw [← hG.out]; exact Nat.le_refl _), HSN.out] at this
                    exact this)
                  go_wp2_with fail
                  go_roundw
                  case rel => first | exact ⟨k + 1, S2, by go_num, by omega, HNT.out, HRB, HBF⟩ | ((repeat apply Exists.intro); exact ⟨⟨k + 1, S2, by go_num, by omega, HNT.out, HRB, HBF⟩, rfl⟩)
                  case measure => simp [intOf]; omega
            · obtain rfl : k = 4 := by omega
              obtain ⟨wo, rfl⟩ : ∃ wo : World, wo = wr := ⟨_, rfl⟩
              have HSC : Hid (∀ i, i < m → sc P 4 i = (delaysL (btS X0 i)).length) := Lib.hid fun i hi => sc_four HR.out i (by rw [HLM.out]; exact hi)
              go_wp2_with fail
              go_loopw [13, 14] (fun l i wx => ∃ j : Nat, i = .int .i64 (j : Int) ∧ j ≤ m ∧ l = .int .i64 (lostN X0 j : Int) ∧ Hid (Only Nobody wo wx)) (fun _ i _ => m - (intOf i).toNat)
              case atStart => exact ⟨0, rfl, Nat.zero_le _, rfl, Lib.hid (Only.refl _ _)⟩
              case round =>
                obtain ⟨j, rfl, hj, rfl, HOJ⟩ := hrel
                have hlj := lostN_le X0 j
                by_cases hjm : j < m
                · have hji : (j : Int) < (m : Int) := by omega
                  have hj0 : (0 : Int) ≤ (j : Int) := by omega
                  obtain ⟨b, HBJ⟩ : ∃ b, Hid (b = btS X0 j) := ⟨_, Lib.hid rfl⟩
                  obtain ⟨D, HD⟩ : ∃ D, Hid (D = (delaysL b).length) := ⟨_, Lib.hid rfl⟩
                  have hD : D ≤ 2 := by rw [HD.out]; exact delaysL_le b
                  have HLN : Hid (lostN X0 (j + 1) = lostN X0 j + if D = 0 then 1 else 0) := Lib.hid (by
                    rw [lostN, ← HBJ.out]
                    congr 1
                    by_cases e : delaysL b = []
                    · rw [if_pos e, if_pos (by rw [HD.out, e]; rfl)]
                    · rw [if_neg e, if_neg (by rw [HD.out]; intro h; exact e (List.eq_nil_of_length_eq_zero h))])
                  have HCEL : Hid (∀ w', Only Nobody wo w' → w'.cell? ⟨g, j, none⟩ = some (.int .i64 (D : Int))) := Lib.hid fun w' ho => by
                    rw [(ho.blk HB.out (fun x => x)).cell, List.getElem?_toArray, seenL_get P 4 m [] j hjm, HSC.out j hjm, HD.out, HBJ.out]
                    simp
                  by_cases hjs : j < n0
                  · have hjsI : (j : Int) < (n0 : Int) := by omega
                    have hncI : (n0 : Int) ≤ (c0 : Int) := by omega
                    have hrd := (HXS.out.rd.below (HNN.out.bel.trans (HOJ.out.below HNN.out.bel.size (fun _ x => x.elim)))).at_ hjs
                    obtain ⟨ad, u, rfl, _, hu, hcu⟩ := hrd
                    have hu2 : u = .int .u8 (b.toNat : Int) := by
                      rw [HBJ.out]
                      unfold byteVals' at hu
                      rw [List.getElem?_map, List.getElem?_eq_getElem (by rw [HL0.out]; exact hjs)] at hu
                      simp only [Option.map_some, Option.some.injEq] at hu
                      rw [← hu]
                      unfold btS
                      rw [List.getD_eq_getElem?_getD, List.getElem?_eq_getElem (by rw [HL0.out]; exact hjs), Option.getD_some]
                    subst hu2
                    clear hu
                    go_wp2_with fail
                    refine (mdelays_at _ b rfl _).mono ?_
                    rintro e wa ⟨A7, rfl, hoa⟩
                    have HOA := Lib.hid (HOJ.out.trans hoa)
                    have hcel := HCEL.out _ HOA.out
                    clear hoa
                    rw [← HD.out]
                    by_cases hD0 : D = 0
                    · have HLN1 : Hid (lostN X0 (j + 1) = lostN X0 j + 1) := Lib.hid (by rw [HLN.out, if_pos hD0])
                      subst hD0
                      go_wp2_with fail
                      go_roundw
                      case rel => first | exact ⟨j + 1, by go_num, by omega, by rw [HLN1.out]; go_num, HOA⟩ | ((repeat apply Exists.intro); exact ⟨⟨j + 1, by go_num, by omega, by rw [HLN1.out]; go_num, HOA⟩, rfl⟩)
                      case measure => simp [intOf]; omega
                    · have hDI : ¬ (D : Int) = 0 := by omega
                      have hDB : ((D : Int) == 0) = false := by simp; omega
                      have hDN : ((D : Int) != (D : Int)) = false := by simp
                      have HD0 := Lib.hid hD0
                      clear hD0
                      go_wp2_with fail
                      go_roundw
                      case rel => first | exact ⟨j + 1, by go_num, by omega, by rw [HLN.out, if_neg HD0.out, Nat.add_zero], HOA⟩ | ((repeat apply Exists.intro); exact ⟨⟨j + 1, by go_num, by omega, by rw [HLN.out, if_neg HD0.out, Nat.add_zero], HOA⟩, rfl⟩)
                      case measure => simp [intOf]; omega
                  · have hjsI : ¬ (j : Int) < (n0 : Int) := by omega
                    have HB0 : Hid ((0 : Int) = (b.toNat : Int)) := Lib.hid (by
                      rw [HBJ.out]
                      unfold btS
                      rw [List.getD_eq_getElem?_getD, List.getElem?_eq_none (by rw [HL0.out]; omega)]
                      rfl)
                    go_wp2_with fail
                    refine (mdelays_at _ b HB0.out _).mono ?_
                    rintro e wa ⟨A7, rfl, hoa⟩
                    have HOA := Lib.hid (HOJ.out.trans hoa)
                    have hcel := HCEL.out _ HOA.out
                    clear hoa
                    rw [← HD.out]
                    by_cases hD0 : D = 0
                    · have HLN1 : Hid (lostN X0 (j + 1) = lostN X0 j + 1) := Lib.hid (by rw [HLN.out, if_pos hD0])
                      subst hD0
                      go_wp2_with fail
                      go_roundw
                      case rel => first | exact ⟨j + 1, by go_num, by omega, by rw [HLN1.out]; go_num, HOA⟩ | ((repeat apply Exists.intro); exact ⟨⟨j + 1, by go_num, by omega, by rw [HLN1.out]; go_num, HOA⟩, rfl⟩)
                      case measure => simp [intOf]; omega
                    · have hDI : ¬ (D : Int) = 0 := by omega
                      have hDB : ((D : Int) == 0) = false := by simp; omega
                      have hDN : ((D : Int) != (D : Int)) = false := by simp
                      have HD0 := Lib.hid hD0
                      clear hD0
                      go_wp2_with fail
                      go_roundw
                      case rel => first | exact ⟨j + 1, by go_num, by omega, by rw [HLN.out, if_neg HD0.out, Nat.add_zero], HOA⟩ | ((repeat apply Exists.intro); exact ⟨⟨j + 1, by go_num, by omega, by rw [HLN.out, if_neg HD0.out, Nat.add_zero], HOA⟩, rfl⟩)
                      case measure => simp [intOf]; omega
                · obtain rfl : m = j := by omega
                  have HNJ := Lib.hid (HNN.out.keep HOJ.out (fun _ x => x.elim) (fun _ _ x => x))
                  go_wp2_with fail
                  refine (pending_net w _ F N S HNJ.out HR.out.good.pend).mono ?_
                  rw [af_pend HR.out]
                  rintro e wa ⟨rfl, hna, _⟩
                  have HNA := Lib.hid hna
                  clear hna
                  go_wp2_with fail
                  refine (lost_at N F S wa HNA.out.at_).mono ?_
                  rw [HR.out.lost, HLM.out]
                  rintro e w' ⟨rfl, rfl⟩
                  go_wp2_with fail
                  refine (sent_at N F S wa HNA.out.at_).mono ?_
                  rw [HR.out.sent, HLM.out]
                  rintro e w' ⟨rfl, rfl⟩
                  go_wp2_with fail
                  go_ret
                  exact ⟨rfl, HNA.out.bel⟩

end Go.Proofs.Ytbfkmdcjamillaa
