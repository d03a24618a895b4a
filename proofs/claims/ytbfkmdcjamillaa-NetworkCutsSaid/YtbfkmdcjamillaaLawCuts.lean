/- The walk of the law NetworkCuts. -/
import Derived.Test.YtbfkmdcjamillaaCutP
import Derived.Test.YtbfkmdcjamillaaNetG
import Derived.Deep.Cut
import Derived.Deep.CutRange
import Derived.Deep.DeepCutAuto
namespace Go.Proofs.Ytbfkmdcjamillaa
open Go.RowKit Go.Maps

def CtMid (w : World) (N : Nat) (a b o : ByteArray) (s : Value) (wx : World) : Prop := ∃ F, s = .bool false ∧ Net w wx F N (ct5 a b o (decide (o ≠ a) && decide (o ≠ b)))

theorem new_ct (w0 w : World) (hb : Below w0.heap.size w0 w) : Calls Try.prog 16 #[.slice none 0 0] w fun e w' => ∃ N F, e = .returned (.pointer (some ⟨N, 0, none⟩)) ∧ Net w0 w' F N ct0 ∧ Only Nobody w w' ∧ ∀ b, F b → w.heap.size ≤ b :=
  new_net w0 w none 0 0 [] hb (.inl ⟨rfl, rfl, rfl, rfl⟩) (by omega)

set_option maxRecDepth 100000 in
set_option maxHeartbeats 4000000 in
theorem lawCuts (w : World) (x y : UInt8) (A : Option Addr) (n c : Nat) (X : List UInt8) (HX : Given w 1 A n c (byteVals' X)) : Calls Try.prog 10 #[.int .u8 x.toNat, .int .u8 y.toNat, .slice A n c] w fun e w' => e = .returned (.bool true) ∧ Below w.heap.size w w' := by
  have hx : (x.toNat : Int) < 256 := by have := x.toNat_lt; omega
  have hy : (y.toNat : Int) < 256 := by have := y.toNat_lt; omega
  obtain ⟨p, hp, hpx⟩ := rem4 x
  obtain ⟨q, hq, hqy⟩ := rem4 y
  have hp' : (p.toNat : Int) < 4 := by omega
  have hq' : (q.toNat : Int) < 4 := by omega
  have HXX := Lib.hid HX
  clear HX
  go_enter Try.func10, Try.ntmps10
  go_wp2_with fail
  refine (new_ct w w (Below.refl _ w)).mono ?_
  rintro e w1 ⟨N, F1, rfl, hn1, _, _⟩
  have HN1 := Lib.hid hn1
  clear hn1
  have hpn := ptr_nil
  go_wp2_with fail
  refine (placeOf_any p w1).mono ?_
  rintro e w2 ⟨rfl, ho2⟩
  have HN2 := Lib.hid (HN1.out.keep ho2 (fun _ x => x.elim) (fun _ _ x => x))
  clear ho2
  go_wp2_with fail
  refine (placeOf_any q w2).mono ?_
  rintro e w3 ⟨rfl, ho3⟩
  have HN3 := Lib.hid (HN2.out.keep ho3 (fun _ x => x.elim) (fun _ _ x => x))
  clear ho3
  obtain ⟨r, hr, hrr⟩ := sum4 p q
  go_wp2_with fail
  refine (placeOf_any r w3).mono ?_
  rintro e w4 ⟨rfl, ho4⟩
  have HN4 := Lib.hid (HN3.out.keep ho4 (fun _ x => x.elim) (fun _ _ x => x))
  have gA : Hid (placeB (placeS p.toNat) = true) := Lib.hid (place_good p hp)
  have gB : Hid (placeB (placeS q.toNat) = true) := Lib.hid (place_good q hq)
  have gO : Hid (placeB (placeS r.toNat) = true) := Lib.hid (place_good r hr)
  clear ho4 hx hy hpx hqy hp' hq' hrr
  generalize placeS p.toNat = a at gA ⊢
  generalize placeS q.toNat = b at gB ⊢
  generalize placeS r.toNat = o at gO ⊢
  clear hr hp hq
  go_wp2_with fail
  refine (known_any _).mono ?_
  rintro e w5 ⟨rfl, hb5⟩
  have HN5 := Lib.hid (HN4.out.keep (Only.of_below hb5 Nobody) (fun _ x => x.elim) (fun _ _ x => x))
  clear hb5
  have G3 : Hid (Places3 a b o (decide (o ≠ a) && decide (o ≠ b))) := Lib.hid ⟨gA.out, gB.out, gO.out, by simp⟩
  go_wp2_with fail
  refine (send_to w w5 F1 N ct0 (ct1 a b) 0 a b _ HN5.out (ct0_good.small (by omega)) (by decide +kernel) (ct0_send G3.out)).mono ?_
  rintro e w6 ⟨rfl, F6, hn6, _, _⟩
  have HN6 := Lib.hid hn6
  have HA := Lib.hid (place_small gA.out)
  have HB := Lib.hid (place_small gB.out)
  clear hn6
  go_wp2_with fail
  refine (cut_net w w6 F6 N (ct1 a b) b a HN6.out (((ct1_good G3.out).small (by omega)).ncut) HB.out HA.out).mono ?_
  rintro e w7 ⟨rfl, hn7, _⟩
  have HN7 := Lib.hid hn7
  clear hn7
  go_wp2_with fail
  refine (cut_net w w7 F6 N _ a b HN7.out (by have := (ct1_good G3.out).ncut; show (ct1 a b).ncut + 1 ≤ 100000; omega) HA.out HB.out).mono ?_
  rintro e w8 ⟨rfl, hn8, _⟩
  have HN8 := Lib.hid (show Net w w8 F6 N (ct2 a b) from hn8)
  clear hn8
  go_wp2_with fail
  refine (send_to w w8 F6 N (ct2 a b) (ct3 a b) 0 a b _ HN8.out ((ct2_good G3.out).small (by omega)) (by decide +kernel) (ct2_send G3.out)).mono ?_
  rintro e w9 ⟨rfl, F9, hn9, _, _⟩
  have HN9 := Lib.hid hn9
  clear hn9
  go_wp2_with fail
  refine (send_to w w9 F9 N (ct3 a b) (ct4 a b) 0 b a _ HN9.out ((ct3_good G3.out).small (by omega)) (by decide +kernel) (ct3_send G3.out)).mono ?_
  rintro e wa ⟨rfl, Fa, hna, _, _⟩
  have HNA := Lib.hid hna
  clear hna
  go_wp2_with fail
  refine (lost_at N Fa (ct4 a b) wa HNA.out.at_).mono ?_
  rw [ct4_lost]
  rintro e w' ⟨rfl, rfl⟩
  go_wp2_with fail
  refine (pending_net w wa Fa N (ct4 a b) HNA.out (ct4_good G3.out).pend).mono ?_
  rw [(ct4_good G3.out).rel.pend]
  rintro e wb ⟨rfl, hnb, _⟩
  have HNB := Lib.hid hnb
  clear hnb
  go_upto_region 10 with fail
  go_cut [90] (fun s wx => CtMid w N a b o s wx)
  case first =>
    by_cases h1 : o = a
    · have HE : Hid ((decide (o ≠ a) && decide (o ≠ b)) = false) := Lib.hid (by simp [h1])
      have HNB2 : Hid (Net w wb Fa N (ct5 a b o (decide (o ≠ a) && decide (o ≠ b)))) := Lib.hid (by rw [HE.out]; exact HNB.out)
      clear HE
      subst h1
      go_wp2_with fail
      go_meet
      exact ⟨Fa, rfl, HNB2.out⟩
    · have HX : Hid (¬ o.toList = a.toList) := Lib.hid (str_ne h1)
      by_cases h2 : o = b
      · have HE : Hid ((decide (o ≠ a) && decide (o ≠ b)) = false) := Lib.hid (by simp [h2])
        have HNB2 : Hid (Net w wb Fa N (ct5 a b o (decide (o ≠ a) && decide (o ≠ b)))) := Lib.hid (by rw [HE.out]; exact HNB.out)
        clear HE h1
        subst h2
        go_wp2_with fail
        all_goals first
          | exact absurd (by assumption) HX.out
          | (go_meet; exact ⟨Fa, rfl, HNB2.out⟩)
      · have HY : Hid (¬ o.toList = b.toList) := Lib.hid (str_ne h2)
        have HE : Hid ((decide (o ≠ a) && decide (o ≠ b)) = true) := Lib.hid (by simp [h1, h2])
        clear h1 h2
        go_wp2_with fail
        all_goals first
          | exact absurd (by assumption) HX.out
          | exact absurd (by assumption) HY.out
          | skip
        refine (send_to w wb Fa N (ct4 a b) (ct5 a b o (decide (o ≠ a) && decide (o ≠ b))) 0 a o _ HNB.out ((ct4_good G3.out).small (by omega)) (by decide +kernel) (ct4_send G3.out HE.out)).mono ?_
        rintro e wc ⟨rfl, Fc, hnc, _, _⟩
        have HNC := Lib.hid hnc
        clear hnc
        go_wp2_with fail
        refine (lost_at N Fc _ wc HNC.out.at_).mono ?_
        rw [ct5_lost G3.out]
        rintro e w' ⟨rfl, rfl⟩
        go_wp2_with fail
        go_meet
        exact ⟨Fc, rfl, HNC.out⟩
  case rest =>
    obtain ⟨Fc, rfl, hnc⟩ := hcut
    have HNC := Lib.hid hnc
    clear hnc
    generalize (decide (o ≠ a) && decide (o ≠ b)) = k at HNC G3
    go_wp2_with fail
    refine (join_net w wc Fc N (ct5 a b o k) a b HNC.out HA.out HB.out).mono ?_
    rintro e wd ⟨rfl, hnd, _⟩
    have HND := Lib.hid (show Net w wd Fc N (ct6 a b o k) from hnd)
    clear hnd
    go_wp2_with fail
    refine (send_to w wd Fc N (ct6 a b o k) (ct7 a b o k) 0 b a _ HND.out ((ct6_good G3.out).small (by omega)) (by decide +kernel) (ct6_send G3.out)).mono ?_
    rintro e we ⟨rfl, Fe, hne, _, _⟩
    have HNE := Lib.hid hne
    clear hne
    go_wp2_with fail
    refine (lost_at N Fe _ we HNE.out.at_).mono ?_
    rw [ct7_lost G3.out]
    rintro e w' ⟨rfl, rfl⟩
    go_wp2_with fail
    refine (step_net w we Fe N (ct7 a b o k) HNE.out (by rw [ct7_now]; omega)).mono ?_
    rintro e wf ⟨rfl, hnf, _⟩
    rw [ct7_now] at hnf
    have HNF := Lib.hid (show Net w wf Fe N (ct8 a b o k) from hnf)
    clear hnf
    go_wp2_with fail
    refine (receive_net w wf Fe N (ct8 a b o k) b HNF.out (ct8_good G3.out).pend HB.out).mono ?_
    rintro e wg ⟨v, rfl, hv, hng, _⟩
    have HNG := Lib.hid (show Net w wg Fe N (ct9 a b o k) from hng)
    clear hng
    by_cases hab : a = b
    · subst hab
      rw [ct8_same G3.out] at hv
      obtain ⟨g, cap, rfl, _, hg, hcs⟩ := pk_row hv (Nat.zero_lt_succ _)
      have q0 := (hcs 0 _ rfl).2
      have q1 := (hcs 1 _ rfl).2
      have HQ0 := Lib.hid q0
      have HQ1 := Lib.hid q1
      have HBL := Lib.hid HNG.out.bel
      have HR := Lib.hid (HXX.out.rd.below HNG.out.bel)
      change wg.cell? ⟨g, 1, none⟩ = some (.string ⟨#[48]⟩) at q0
      change wg.cell? ⟨g, 3, none⟩ = some (.string ⟨#[52]⟩) at q1
      clear hv hcs hg
      go_wp2_with fail
      refine (new_given HXX.out HBL.out).mono ?_
      rintro e wh ⟨N2, F2, rfl, hnh, _, _⟩
      have HNH := Lib.hid hnh
      clear hnh
      go_wp2_with fail
      refine (receive_net w wh F2 N2 (newNet X) a HNH.out (Nat.zero_le _) HA.out).mono ?_
      rintro e wi ⟨v, rfl, hv, hni, _⟩
      obtain ⟨A8, c8, hvf⟩ := row_form hv
      have hvf : v = .slice A8 0 c8 := hvf
      have HBI := Lib.hid hni.bel
      clear hv hni
      subst hvf
      go_wp2_with fail
      go_ret
      exact ⟨rfl, HBI.out⟩
    · rw [ct8_other G3.out hab] at hv
      have HAB := Lib.hid hab
      have HST := Lib.hid (str_ne hab)
      obtain ⟨g, cap, rfl, hgb, hg, hcs⟩ := pk_row hv (Nat.zero_lt_succ _)
      have HQ0 := Lib.hid (hcs 0 _ rfl).1
      have HQ1 := Lib.hid (hcs 0 _ rfl).2
      have HG := Lib.hid hg
      have HGB : Hid (¬ Fe g) := Lib.hid fun h => by have := HNF.out.bd g h; omega
      clear hv hcs hg hab hgb
      go_wp2_with fail
      all_goals first
        | (have hh : (a.toList == b.toList) = true := by assumption
           exact absurd (eq_of_beq hh) HST.out)
        | skip
      refine (receive_net w wg Fe N (ct9 a b o k) a HNG.out (ct9_good G3.out).pend HA.out).mono ?_
      rintro e wh ⟨v, rfl, hv, hnh, hoh⟩
      have HBH := Lib.hid hnh.bel
      rw [ct9_other G3.out HAB.out] at hv
      obtain ⟨g2, cap2, rfl, _, _, hcs⟩ := pk_row hv (Nat.zero_lt_succ _)
      have r0 := (hcs 0 _ rfl).1
      have r1 := (hcs 0 _ rfl).2
      have q0 : wh.cell? ⟨g, 0, none⟩ = some (.string a) := (hoh.cell (p := ⟨g, 0, none⟩) HG.out HGB.out).trans HQ0.out
      have q1 : wh.cell? ⟨g, 1, none⟩ = some (.string ⟨#[48]⟩) := (hoh.cell (p := ⟨g, 1, none⟩) HG.out HGB.out).trans HQ1.out
      change wh.cell? ⟨g2, 0, none⟩ = some (.string b) at r0
      change wh.cell? ⟨g2, 1, none⟩ = some (.string ⟨#[52]⟩) at r1
      clear hv hcs hnh hoh
      go_wp2_with fail
      go_ret
      exact ⟨rfl, HBH.out⟩

end Go.Proofs.Ytbfkmdcjamillaa
