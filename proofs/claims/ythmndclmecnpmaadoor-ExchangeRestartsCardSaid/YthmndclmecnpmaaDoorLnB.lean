/- Exchange: a step of a link. -/
import Derived.Test.YthmndclmecnpmaaDoorLnB0
namespace Go.Proofs.YthmndclmecnpmaaDoor
open Go.RowKit
open Nw (Net NetS netSendAll netTake netLeft pksOf Grows Small)
attribute [local go_sem ↓] Go.wp_at_zero Go.wp_at_succ

/-- What a step leaves. -/
def StepPost (w0 : World) (Z : Nat → Prop) (N X O I K n : Nat) (s : Ls) (w : World) (e : Ending) (w' : World) : Prop := e = .returned (.tuple #[]) ∧ ∃ (n' : Nat) (s' : Ls) (G' : List It), Lw w0 w' Z N X O I K n' s' G' ∧ n' = n + 310 ∧ s'.T = s.T + 1 ∧ s'.len = s.len ∧ s'.cut = s.cut ∧ (s.cut = false → ∀ f, Lv K eAs (f + 1) s → Lv K eAs f s') ∧ Only (fun k => ¬ Z k) w w'
set_option maxRecDepth 100000 in
set_option maxHeartbeats 64000000 in
theorem step_any {K : Nat} (hK : K ≤ 40) {w0 w : World} {Z : Nat → Prop} {N X O I n : Nat} {s : Ls} {G : List It} (h : Lw w0 w Z N X O I K n s G) (hn : n ≤ 90000) (hs : Std w0) (hT : s.T ≤ 300) :
    Calls Tryd.prog 41 #[.pointer (some ⟨X, 0, none⟩), .pointer (some ⟨N, 0, none⟩)] w (StepPost w0 Z N X O I K n s w) := by
  obtain ⟨S, IS, hq, hg, hst, hr, hk⟩ := h
  have HK := Lib.hid hk
  have HG := Lib.hid hg
  have HST := Lib.hid hst
  have HR := Lib.hid hr
  have HQ := Lib.hid hq
  have h60 : s.O.l.length ≤ 60 := hk.len40 (by omega)
  have hlen60 : s.len ≤ 60 := hk.len
  obtain ⟨l, HLL⟩ : ∃ l, Hid (dueL s = l) := ⟨_, Lib.hid rfl⟩
  obtain ⟨q, HLQ⟩ : ∃ q, Hid (l.length = q) := ⟨_, Lib.hid rfl⟩
  have hq60 : q ≤ 60 := by rw [← HLQ.out, ← HLL.out]; exact dueL_len h60
  obtain ⟨T, HTT⟩ : ∃ T, Hid (s.T = T) := ⟨_, Lib.hid rfl⟩
  obtain ⟨O1, HO1⟩ : ∃ O1, Hid (markO T s.O = O1) := ⟨_, Lib.hid rfl⟩
  have hT3 : T ≤ 300 := by rw [← HTT.out]; exact hT
  have HSD : Hid (∀ w', Below w0.heap.size w0 w' → Std w') := Lib.hid fun w' hb => hs.same (Only.of_below hb Nobody)
  have HML : Hid (∀ x, x ∈ l → ∃ m, 1 ≤ m ∧ m ≤ K ∧ x = itm txS m) := Lib.hid fun x hx => dueL_mem hk (by omega) (by rw [HLL.out]; exact hx)
  have HINJD : Hid (∀ a b, 1 ≤ a → a ≤ K → 1 ≤ b → b ≤ K → eDs a = eDs b → a = b) := Lib.hid fun a b a1 a2 b1 b2 e => inj_D ⟨a1, by omega⟩ ⟨b1, by omega⟩ e
  have HINJA : Hid (∀ a b, a ≤ K → b ≤ K → eAs a = eAs b → a = b) := Lib.hid fun a b a2 b2 e => inj_A (by omega) (by omega) e
  have HTXK : Hid (∀ m, m ≤ K → (txS m).size ≤ 60000) := Lib.hid fun m _ => Nat.le_trans (txS_size m) (by omega)
  have HNOW : Hid (∀ w', Only Nobody w w' → Calls Tryd.prog 53 #[.pointer (some ⟨N, 0, none⟩)] w' fun e w'' => e = .returned (.int .i64 (T : Int)) ∧ w' = w'') := Lib.hid fun w' ho => by
    have := now_lq (HQ.out.same ho)
    rw [HST.out.now, HTT.out] at this
    exact this
  have HDUE : Hid (∀ w', Only Nobody w w' → Calls Tryd.prog 25 #[.pointer (some ⟨O, 0, none⟩), .int .i64 (T : Int), .int .i64 3] w' fun e w'' => ∃ v b, e = .returned v ∧ w''.ownsRow b 36 2 v q (itsC l) ∧ LQ w0 w'' (fun k => Z k ∨ v.ownBlock = some k) N S X O I O1 IS G ∧ Only (fun k => ¬ Z k) w' w'') := Lib.hid fun w' ho => by
    have h1 := due_lq T (by omega) (HQ.out.same ho) (by omega)
    have e1 : dueTo T 3 (min s.O.l.length 64) s.O.l = l := by rw [← HLL.out, ← HTT.out]; rfl
    have e2 : ({ s.O with l := markTo T 3 (min s.O.l.length 64) s.O.l } : OutS) = O1 := by
      have h3 := markTo_eq h60
      rw [HTT.out] at h3
      rw [h3, ← HO1.out]
      rfl
    rw [e1, e2, HLQ.out] at h1
    exact h1.mono fun e w'' ⟨v, h4, h5, h6, h7⟩ => ⟨v, _, h4, h5, h6, h7⟩
  have HCX : Hid (∀ w', Only Nobody w w' → w'.cell? ⟨X, 0, none⟩ = some (.pointer (some ⟨O, 0, none⟩))) := Lib.hid fun w' ho => (HQ.out.same ho).cells.1
  clear hq hg hst hr hk hs hT h60
  have hcx0 := HCX.out w (Only.refl _ _)
  go_enter Tryd.func41, Tryd.ntmps41
  go_upto_region 0 with fail
  go_cut [4] (fun v wx => ∃ (A : Option Addr) (c b : Nat), v = .slice A q c ∧ Hid (wx.ownsRow b 36 2 (.slice A q c) q (itsC l)) ∧ Hid (LQ w0 wx (fun k => Z k ∨ (Value.slice A q c).ownBlock = some k) N S X O I O1 IS G) ∧ Hid (Only (fun k => ¬ Z k) w wx))
  case first =>
    go_region_held3 (fun w' => w'.cell? ⟨X, 0, none⟩ = some (.pointer (some ⟨O, 0, none⟩))) (first | exact hcx1 | exact HCX.out _ (by repeat (first | with_reducible exact Only.refl _ _ | with_reducible refine Only.drew ?_ | with_reducible refine Only.alloc ?_ _))) (first
      | (go_at_call 53; refine (HNOW.out _ (by repeat (first | with_reducible exact Only.refl _ _ | with_reducible refine Only.drew ?_ | with_reducible refine Only.alloc ?_ _))).mono ?_; rintro e w' ⟨rfl, rfl⟩)
      | (go_at_call 25; refine (HDUE.out _ (by repeat (first | with_reducible exact Only.refl _ _ | with_reducible refine Only.drew ?_ | with_reducible refine Only.alloc ?_ _))).mono ?_; rintro e w1 ⟨v1, b1, rfl, hr1, hq1, ho1⟩; obtain ⟨A1, c1, rfl⟩ := own_form hr1; have HR1 := Lib.hid hr1; have HQ1 := Lib.hid hq1; have HOW1 : Hid (Only (fun k => ¬ Z k) w w1) := Lib.hid (Only.trans (by repeat (first | with_reducible exact Only.refl _ _ | with_reducible refine Only.drew ?_ | with_reducible refine Only.alloc ?_ _)) ho1); have hcx1 := hq1.cells.1; clear hr1 hq1 ho1))
    all_goals
      go_wp2_with fail
      go_meet
      exact ⟨A1, c1, b1, rfl, HR1, HQ1, HOW1⟩
  case rest =>
  obtain ⟨A1, c1, b1, rfl, HR1, HQ1, HOW1⟩ := hcut
  obtain ⟨w1, rfl⟩ : ∃ wa, wa = wc := ⟨_, rfl⟩
  obtain ⟨Z1, HZ1⟩ : ∃ Z1 : Nat → Prop, Hid (Z1 = fun k => Z k ∨ (Value.slice A1 q c1).ownBlock = some k) := ⟨_, Lib.hid rfl⟩
  rw [← HZ1.out] at HQ1
  have HZZ : Hid (∀ k, Z k → Z1 k) := Lib.hid fun k hk => by rw [HZ1.out]; exact .inl hk
  have HZB : Hid (∀ k, (Value.slice A1 q c1).ownBlock = some k → Z1 k) := Lib.hid fun k hk => by rw [HZ1.out]; exact .inr hk
  clear hcx0
  go_wp2_with fail
  go_loopw [5] (fun kv wx => ∃ (j use : Nat) (S1 : NetS) (P : List Nw.Pc), kv = .int .i64 (j : Int) ∧ j ≤ q ∧ Hid (LQ w0 wx Z1 N S1 X O I O1 IS G) ∧ Hid (Nw.Good S1 P (n + j)) ∧ Hid (St S1 T use s.len s.cut) ∧ Hid (P1 (tx := txS) K eDs eAs s l j use P) ∧ Hid (Only (fun k => ¬ Z1 k) w1 wx)) (fun kv _ => q - (intOf kv).toNat)
  case atStart => exact ⟨0, s.use, S, s.P, rfl, Nat.zero_le _, HQ1, HG, Lib.hid (by have := HST.out; rw [HTT.out] at this; exact this), Lib.hid (p1_start HK.out l), Lib.hid (Only.refl _ _)⟩
  case round =>
    obtain ⟨j, use, S1, P, rfl, hj, HQj, HGj, HSj, HPj, HOj⟩ := hrel
    have hj0 : (0 : Int) ≤ (j : Int) := by omega
    by_cases hjq : j < q
    · have hjI : (j : Int) < (q : Int) := by omega
      obtain ⟨x, hx⟩ : ∃ x, l[j]? = some x := ⟨_, List.getElem?_eq_getElem (by rw [HLQ.out]; exact hjq)⟩
      obtain ⟨m0, hm1, hm2, hxm⟩ := HML.out x (List.mem_of_getElem? hx)
      have HXM := Lib.hid hxm
      have HX := Lib.hid hx
      obtain ⟨g, hA, hbg, hgl, hqc, hcells⟩ := it_at HLQ.out (HOj.out.row HR1.out (fun k e h => h (HZB.out k e))) (by omega)
      subst hA
      obtain ⟨a0, a1⟩ := hcells j x hx
      obtain ⟨d, HD⟩ : ∃ d, Hid (eDs m0 = d) := ⟨_, Lib.hid rfl⟩
      have hds : d.size ≤ 100000 := by rw [← HD.out]; exact enc_D hm1 (by omega)
      obtain ⟨S2, Q, hse, hg2, hs2, hnw⟩ := sent_ok (c := d) HGj.out HSj.out (.inl ⟨rfl, rfl⟩) (by have := HPj.out.len (by omega); omega) (by omega)
      have HSE := Lib.hid hse
      have HG2 := Lib.hid hg2
      have HS2 := Lib.hid hs2
      have HP2 := Lib.hid (p1_send (n := m0) HPj.out (by rw [hx, hxm]) hm1 hm2 (by rw [HD.out, HTT.out]; exact hnw))
      have HAC : Hid (∀ w', Only Nobody wr w' → w'.cell? ⟨g, j * 2, none⟩ = some (.int .i64 x.n) ∧ w'.cell? ⟨g, j * 2 + 1, none⟩ = some (.string x.t)) := Lib.hid fun w' ho => ⟨(ho.cell (p := ⟨g, _, none⟩) hgl (fun x => x)).trans a0, (ho.cell (p := ⟨g, _, none⟩) hgl (fun x => x)).trans a1⟩
      have HEN : Hid (∀ w', Only Nobody wr w' → Calls Tryd.prog 22 #[.agg #[.int .i64 1, .string ⟨#[113]⟩, .int .i64 x.n, .string x.t]] w' fun e w'' => e = .returned (.tuple #[.string d, .int .i64 0]) ∧ Only Nobody w' w'') := Lib.hid fun w' ho => by
        rw [← HD.out, HXM.out]
        exact enc_D_call hm1 (by omega) w' (HSD.out w' (HQj.out.same ho).bel).tab
      have HSN : Hid (∀ w', LQ w0 w' Z1 N S1 X O I O1 IS G → Calls Tryd.prog 54 #[.pointer (some ⟨N, 0, none⟩), .string ⟨#[97]⟩, .string ⟨#[98]⟩, .string d] w' fun e w'' => e = .returned (.int .i64 0) ∧ LQ w0 w'' Z1 N S2 X O I O1 IS G ∧ Only (fun k => ¬ Z1 k) w' w'') := Lib.hid fun w' hq => by
        have h1 := send_lq plA plB d hq (small_of HGj.out (by omega)) (by unfold maxLen; omega)
        rw [HSE.out] at h1
        exact h1
      clear hx hxm hcells hse hg2 hs2 hnw
      have HOX := Lib.hid (Only.refl Nobody wr)
      go_upto_region 4 with fail
      go_cut [6, 7] (fun sv ev wx => sv = .string d ∧ ev = .int .i64 0 ∧ Hid (Only Nobody wr wx))
      case first =>
        go_region_held3 (fun w' => w'.cell? ⟨g, j * 2, none⟩ = some (.int .i64 x.n) ∧ w'.cell? ⟨g, j * 2 + 1, none⟩ = some (.string x.t)) (exact HAC.out _ (by repeat (first | with_reducible exact HOX.out | with_reducible exact Only.refl _ _ | with_reducible refine Only.drew ?_ | with_reducible refine Only.alloc ?_ _))) (first
          | (go_at_call 22; refine (HEN.out _ (by repeat (first | with_reducible exact HOX.out | with_reducible exact Only.refl _ _ | with_reducible refine Only.drew ?_ | with_reducible refine Only.alloc ?_ _))).mono ?_; rintro e w4 ⟨rfl, ho4⟩; have HOX : Hid (Only Nobody wr w4) := Lib.hid (Only.trans (by repeat (first | with_reducible exact HOX.out | with_reducible exact Only.refl _ _ | with_reducible refine Only.drew ?_ | with_reducible refine Only.alloc ?_ _)) ho4); clear ho4))
        all_goals
          go_wp2_with fail
          go_meet
          exact ⟨rfl, rfl, HOX⟩
      case rest =>
      obtain ⟨rfl, rfl, HOC⟩ := hcut
      have HQc := Lib.hid (HQj.out.same HOC.out)
      obtain ⟨_, _, x3, xf3⟩ := HQc.out.cells
      have HQ5 := Lib.hid HQc.out.ok_
      clear a0 a1
      go_wp2_with fail
      refine (HSN.out _ HQ5.out.1).mono ?_
      rintro e w6 ⟨rfl, hq6, ho6⟩
      have HQ6 := Lib.hid hq6
      have HO6 : Hid (Only (fun k => ¬ Z1 k) w1 w6) := Lib.hid (((HOj.out.trans (HOC.out.mono (fun _ x => x.elim))).trans HQ5.out.2).trans ho6)
      clear hq6 ho6 x3 xf3
      go_wp2_with fail
      go_roundw
      case rel => first | exact ⟨j + 1, _, S2, _, by go_num, by omega, HQ6, HG2, HS2, HP2, HO6⟩ | ((repeat apply Exists.intro); exact ⟨⟨j + 1, _, S2, _, by go_num, by omega, HQ6, HG2, HS2, HP2, HO6⟩, rfl⟩)
      case measure => simp [intOf]; omega
    · obtain rfl : j = q := by omega
      have HT2 := Lib.hid (tick_ok HGj.out HSj.out)
      obtain ⟨S3, HS3⟩ : ∃ S3 : NetS, Hid (S3 = { S1 with now := S1.now + 1 }) := ⟨_, Lib.hid rfl⟩
      rw [← HS3.out] at HT2
      have HTK : Hid (∀ w', LQ w0 w' Z1 N S1 X O I O1 IS G → Calls Tryd.prog 55 #[.pointer (some ⟨N, 0, none⟩)] w' fun e w'' => e = .returned (.tuple #[]) ∧ LQ w0 w'' Z1 N S3 X O I O1 IS G ∧ Only (fun k => ¬ Z1 k) w' w'') := Lib.hid fun w' hq => by
        have h1 := tick_lq hq (small_of HGj.out (by omega)).now
        rw [← HS3.out] at h1
        exact h1
      obtain ⟨S4, HS4⟩ : ∃ S4, Hid (netLeft S3 plB = S4) := ⟨_, Lib.hid rfl⟩
      obtain ⟨r, HRL⟩ : ∃ r, Hid (netTake S3 plB = r) := ⟨_, Lib.hid rfl⟩
      obtain ⟨rq, HRQ⟩ : ∃ rq, Hid (r.length = rq) := ⟨_, Lib.hid rfl⟩
      have HL4 := Lib.hid (left_ok HT2.out.1 HT2.out.2 plB)
      rw [HS4.out, HRL.out] at HL4
      have hrq : rq ≤ 240 := by rw [← HRQ.out]; exact r_len HPj.out (by omega) HL4.out.1
      have HARR : Hid (∀ c ∈ r, ∃ m, 1 ≤ m ∧ m ≤ K ∧ c.da = eDs m) := Lib.hid fun c hc => arr_b HPj.out (by rw [HTT.out]; exact HL4.out.1) hc
      have HRC : Hid (∀ w', LQ w0 w' Z1 N S3 X O I O1 IS G → Calls Tryd.prog 56 #[.pointer (some ⟨N, 0, none⟩), .string ⟨#[98]⟩] w' fun e w'' => ∃ v b, e = .returned v ∧ w''.ownsRow b 113 2 v rq (pksOf r) ∧ LQ w0 w'' (fun k => Z1 k ∨ v.ownBlock = some k) N S4 X O I O1 IS G ∧ Only (fun k => ¬ Z1 k) w' w'') := Lib.hid fun w' hq => by
        have h1 := recv_lq plB hq (small_of HT2.out.1 (by omega)).pend (by decide)
        rw [HRL.out, HS4.out, HRQ.out] at h1
        exact h1.mono fun e w'' ⟨v, h4, h5, h6, h7⟩ => ⟨v, _, h4, h5, h6, h7⟩
      go_wp2_with fail
      refine (HTK.out _ HQj.out).mono ?_
      rintro e w2 ⟨rfl, hq2, ho2⟩
      have HQ2 := Lib.hid hq2
      have HO2 := Lib.hid (HOj.out.trans ho2)
      clear hq2 ho2
      go_wp2_with fail
      refine (HRC.out _ HQ2.out).mono ?_
      rintro e w3 ⟨v3, b3, rfl, hr3, hq3, ho3⟩
      obtain ⟨A3, c3, rfl⟩ := own_form hr3
      have HR3 := Lib.hid hr3
      have HQ3 := Lib.hid hq3
      have HO3 := Lib.hid (HO2.out.trans ho3)
      clear hr3 hq3 ho3
      obtain ⟨Z2, HZ2⟩ : ∃ Z2 : Nat → Prop, Hid (Z2 = fun k => Z1 k ∨ (Value.slice A3 rq c3).ownBlock = some k) := ⟨_, Lib.hid rfl⟩
      rw [← HZ2.out] at HQ3
      have HZZ2 : Hid (∀ k, Z1 k → Z2 k) := Lib.hid fun k hk => by rw [HZ2.out]; exact .inl hk
      have HZB2 : Hid (∀ k, (Value.slice A3 rq c3).ownBlock = some k → Z2 k) := Lib.hid fun k hk => by rw [HZ2.out]; exact .inr hk
      have HP3 := Lib.hid (p3_start (r := r) HK.out HPj.out)
      rw [HTT.out] at HP3
      have HG4 := Lib.hid HL4.out.2.1
      have HS4' := Lib.hid HL4.out.2.2
      obtain ⟨Pa, HPA⟩ : ∃ Pa, Hid (P = Pa) := ⟨_, Lib.hid rfl⟩
      obtain ⟨use1, HU1⟩ : ∃ u, Hid (use = u) := ⟨_, Lib.hid rfl⟩
      rw [HU1.out] at HP3 HS4' HPj
      rw [HPA.out] at HP3 HG4 HPj HL4
      obtain ⟨P40, HP4⟩ : ∃ P40, Hid (Nw.leftP Pa ((T + 1 : Nat) : Int) plB = P40) := ⟨_, Lib.hid rfl⟩
      rw [HP4.out] at HP3 HG4
      have HGAP0 := Lib.hid HK.out.gap
      have HP1 := HPj
      clear HPA HU1
      go_wp2_with fail
      go_loopw [9] (fun kv wx => ∃ (j use : Nat) (S5 : NetS) (P : List Nw.Pc) (m : MIn) (IS5 : InS) (G5 : List It), kv = .int .i64 (j : Int) ∧ j ≤ rq ∧ Hid (LQ w0 wx Z2 N S5 X O I O1 IS5 G5) ∧ Hid (Nw.Good S5 P (n + 61 + j)) ∧ Hid (St S5 (T + 1) use s.len s.cut) ∧ Hid (InR IS5 m) ∧ Hid (P3 K txS eDs eAs s Pa use1 r j j use P m G5) ∧ Hid (¬ hasM m (m.taken + 1)) ∧ Hid (Only (fun k => ¬ Z2 k) w3 wx)) (fun kv _ => rq - (intOf kv).toNat)
      case atStart => exact ⟨0, use1, S4, P40, s.m, IS, G, rfl, Nat.zero_le _, HQ3, Lib.hid (HG4.out.mono (by omega)), HS4', HR, HP3, HGAP0, Lib.hid (Only.refl _ _)⟩
      case round =>
        clear hj hj0 hjq HQj HGj HSj HOj
        obtain ⟨j, use, S5, P, m, IS5, G5, rfl, hj, HQj, HGj, HSj, HRj, HP5, HGAP, HOj⟩ := hrel
        have hj0 : (0 : Int) ≤ (j : Int) := by omega
        by_cases hjq : j < rq
        · have hjI : (j : Int) < (rq : Int) := by omega
          obtain ⟨c, hc⟩ : ∃ c, r[j]? = some c := ⟨_, List.getElem?_eq_getElem (by rw [HRQ.out]; exact hjq)⟩
          obtain ⟨m0, hm1, hm2, hcd⟩ := HARR.out c (List.mem_of_getElem? hc)
          have HC := Lib.hid hc
          have HCD := Lib.hid hcd
          obtain ⟨g, hA, hbg, hgl, hqc, hcells⟩ := pk_at HRQ.out (HOj.out.row HR3.out (fun k e h => h (HZB2.out k e))) (by omega)
          subst hA
          obtain ⟨_, a1⟩ := hcells j c hc
          obtain ⟨t0, HT0⟩ : ∃ t0, Hid (txS m0 = t0) := ⟨_, Lib.hid rfl⟩
          have HDE : Hid (∀ w', Only Nobody wr w' → Calls Tryd.prog 37 #[.string c.da] w' fun e w'' => e = .returned (.tuple #[.agg #[.int .i64 1, .string ⟨#[113]⟩, .int .i64 (m0 : Int), .string t0], .int .i64 0]) ∧ Only Nobody w' w'') := Lib.hid fun w' ho => by
            rw [HCD.out, ← HT0.out]
            exact dec_D_call hm1 (by omega) w' (HSD.out w' (HQj.out.same ho).bel)
          clear hcells hc hcd
          go_upto_region 12 with fail
          go_cut [10, 11] (fun dv ev wx => ∃ D : Nat, dv = .pointer (some ⟨D, 0, none⟩) ∧ ev = .int .i64 0 ∧ Hid (Blk wx D 49 #[.int .i64 1, .string ⟨#[113]⟩, .int .i64 (m0 : Int), .string t0]) ∧ wr.heap.size ≤ D ∧ D < wx.heap.size ∧ Hid (Only Nobody wr wx))
          case first =>
            go_wp2_with fail
            refine (HDE.out _ (by repeat (first | with_reducible exact Only.refl _ _ | with_reducible refine Only.drew ?_ | with_reducible refine Only.alloc ?_ _))).mono ?_
            rintro e w4 ⟨rfl, ho4⟩
            have HO4 := Lib.hid ho4
            have HB4 := Blk.new w4 49 #[.int .i64 0, .string ⟨#[]⟩, .int .i64 0, .string ⟨#[]⟩]
            clear ho4
            go_wp2_with fail
            go_meet
            refine ⟨_, rfl, rfl, Lib.hid ?_, HO4.out.size, ?_, Lib.hid ?_⟩
            · first
                | with_reducible exact Blk.new _ _ _
                | exact ((((HB4).set_ 0 _).set_ 1 _).set_ 2 _).set_ 3 _
            · simp
            · repeat (first | with_reducible exact HO4.out | with_reducible exact Only.refl _ _ | with_reducible refine Only.drew ?_ | with_reducible refine Only.alloc ?_ _ | with_reducible refine Only.setCell ?_ (Or.inr ?_) _ | exact HO4.out.size)
          case rest =>
          obtain ⟨D, rfl, rfl, HBD, hD1, hD2, HOC⟩ := hcut
          obtain ⟨wd, rfl⟩ : ∃ wa, wa = wc := ⟨_, rfl⟩
          have HQc := Lib.hid (HQj.out.more1 HOC.out ⟨hD1, hD2⟩)
          obtain ⟨_, _, x3, xf3⟩ := HQc.out.cells
          have HQ5 := Lib.hid HQc.out.ok_
          have d0 : wd.cell? ⟨D, 0, none⟩ = some (.int .i64 1) := HBD.out.cell 0
          obtain ⟨w5, HW5⟩ : ∃ w5, Hid (w5 = wd.setCell ⟨X, 3, none⟩ (.bool true)) := ⟨_, Lib.hid rfl⟩
          rw [← HW5.out] at HQ5
          have HBD5 : Hid (Blk w5 D 49 #[.int .i64 1, .string ⟨#[113]⟩, .int .i64 (m0 : Int), .string t0]) := Lib.hid (HQ5.out.2.blk HBD.out (fun h => h (.inr rfl)))
          have HO5 : Hid (Only (fun k => ¬ Z2 k) w3 w5) := Lib.hid ((HOj.out.trans (HOC.out.mono (fun _ x => x.elim))).trans (HQ5.out.2.mono (fun k hk hz => hk (.inl hz))))
          have HRV : Hid (∀ w', Only Nobody w5 w' → Calls Tryd.prog 18 #[.pointer (some ⟨I, 0, none⟩), .agg #[.int .i64 (m0 : Int), .string t0]] w' fun e w'' => (∃ er : Int, e = .returned (.int .i64 er)) ∧ LQ w0 w'' (fun k => Z2 k ∨ k = D) N S5 X O I O1 (recvI IS5 (itm txS m0)).2 G5 ∧ Only (fun k => ¬ (Z2 k ∨ k = D)) w' w'') := Lib.hid fun w' ho => by
            have hb := inR_len HRj.out
            have h1 := receive_lq (itm txS m0) (HQ5.out.1.same ho) (by rw [HRj.out.taken]; have := HP5.out.sf.le2; omega) (by rw [HRj.out.held]; omega)
            rw [← HT0.out]
            exact h1.mono fun e w'' ⟨h2, h3⟩ => ⟨⟨_, h2⟩, h3⟩
          have HAC : Hid (∀ w', Only Nobody w5 w' → w'.cell? ⟨X, 1, none⟩ = some (.pointer (some ⟨I, 0, none⟩)) ∧ w'.cell? ⟨D, 2, none⟩ = some (.int .i64 (m0 : Int)) ∧ w'.cell? ⟨D, 3, none⟩ = some (.string t0)) := Lib.hid fun w' ho => ⟨(HQ5.out.1.same ho).cells.2.1, (ho.blk HBD5.out (fun x => x)).cell 2, (ho.blk HBD5.out (fun x => x)).cell 3⟩
          clear a1
          go_upto_region 14 with fail
          rw [← HW5.out]
          have hac5 := HAC.out w5 (Only.refl _ _)
          clear x3 xf3 d0
          go_cut [105] (fun ev wx => Hid (LQ w0 wx (fun k => Z2 k ∨ k = D) N S5 X O I O1 (recvI IS5 (itm txS m0)).2 G5) ∧ Hid (Only (fun k => ¬ (Z2 k ∨ k = D)) w5 wx))
          case first =>
            go_region_held3 (fun w' => w'.cell? ⟨X, 1, none⟩ = some (.pointer (some ⟨I, 0, none⟩)) ∧ w'.cell? ⟨D, 2, none⟩ = some (.int .i64 (m0 : Int)) ∧ w'.cell? ⟨D, 3, none⟩ = some (.string t0)) (first | exact hac6 | exact HAC.out _ (by repeat (first | with_reducible exact HO5x.out | with_reducible exact Only.refl _ _ | with_reducible refine Only.drew ?_ | with_reducible refine Only.alloc ?_ _))) (first
              | (go_at_call 18; refine (HRV.out _ (by repeat (first | with_reducible exact Only.refl _ _ | with_reducible refine Only.drew ?_ | with_reducible refine Only.alloc ?_ _))).mono ?_; rintro e w6 ⟨⟨er, rfl⟩, hq6, ho6⟩; have HQ6 := Lib.hid hq6; have HO6 : Hid (Only (fun k => ¬ (Z2 k ∨ k = D)) w5 w6) := Lib.hid (Only.trans (by repeat (first | with_reducible exact Only.refl _ _ | with_reducible refine Only.drew ?_ | with_reducible refine Only.alloc ?_ _)) ho6); have hac6 : w6.cell? ⟨X, 1, none⟩ = some (.pointer (some ⟨I, 0, none⟩)) ∧ w6.cell? ⟨D, 2, none⟩ = some (.int .i64 (m0 : Int)) ∧ w6.cell? ⟨D, 3, none⟩ = some (.string t0) := ⟨hq6.cells.2.1, (HO6.out.blk HBD5.out (fun h => h (.inr rfl))).cell 2, (HO6.out.blk HBD5.out (fun h => h (.inr rfl))).cell 3⟩; clear hq6 ho6))
            all_goals
              go_wp2_with fail
              go_meet
              exact ⟨HQ6, HO6⟩
          case rest =>
          obtain ⟨HQ6, HO6⟩ := hcut
          obtain ⟨w6, rfl⟩ : ∃ wa, wa = wc := ⟨_, rfl⟩
          clear hac5
          have HP6 := Lib.hid (HP5.out.recv (by omega) HTXK.out HINJD.out HC.out hm1 hm2 HCD.out)
          have HR6 := Lib.hid (inR_recv HRj.out (itm txS m0)).2
          have HOZ6 : Hid (Only (fun k => ¬ Z2 k) w3 w6) := Lib.hid (HO5.out.trans (HO6.out.mono (fun k hk hz => hk (.inl hz))))
          obtain ⟨m6, HM6⟩ : ∃ m6, Hid ((recvM m (itm txS m0)).2 = m6) := ⟨_, Lib.hid rfl⟩
          obtain ⟨IS6, HI6⟩ : ∃ i6, Hid ((recvI IS5 (itm txS m0)).2 = i6) := ⟨_, Lib.hid rfl⟩
          rw [HM6.out] at HP6 HR6
          rw [HI6.out] at HR6 HQ6
          go_wp2_with fail
          go_loopw [] (fun wx => ∃ (m : MIn) (IS7 : InS) (G7 : List It), Hid (LQ w0 wx (fun k => Z2 k ∨ k = D) N S5 X O I O1 IS7 G7) ∧ Hid (InR IS7 m) ∧ Hid (P3 K txS eDs eAs s Pa use1 r (j + 1) j use P m G7) ∧ Hid (Only (fun k => ¬ Z2 k) w3 wx)) (fun wx => K - takenW wx I)
          case atStart => exact ⟨m6, IS6, G5, HQ6, HR6, HP6, HOZ6⟩
          case round =>
            obtain ⟨m7, IS7, G7, HQ7, HR7, HP7, HO7⟩ := hrel
            have hb := inR_len HR7.out
            have hit := inR_take HR7.out
            have htk : IS7.taken ≤ K := by rw [HR7.out.taken]; exact HP7.out.sf.le2
            have HTL := Lib.hid (take_lq HQ7.out (by omega) (fun x hx => hit.2.2.2 x (by rw [← hit.1]; exact hx)) (by rw [HR7.out.held]; omega))
            have HIT := Lib.hid hit
            clear hb hit
            have x1 := HQ7.out.cells.2.1
            obtain ⟨wq, HWQ⟩ : ∃ wq, Hid (wq = wr) := ⟨_, Lib.hid rfl⟩
            unfold TakeLq at HTL
            cases hn : nextI IS7 with
            | none =>
              rw [hn] at HTL
              have HNN := Lib.hid (take_gap (HIT.out.1.symm.trans hn))
              clear hn
              go_upto_region 15 with fail
              go_cut [12, 13] (fun yv ev wx => (∃ ya, yv = .pointer (some ya)) ∧ ev = .int .i64 8 ∧ Hid (Only Nobody wr wx))
              case first =>
                go_wp2_with fail
                refine (HTL.out).mono ?_
                rintro e w8 ⟨rfl, ho8⟩
                have HO8 := Lib.hid ho8
                clear ho8
                go_wp2_with fail
                go_meet
                exact ⟨⟨_, rfl⟩, rfl, Lib.hid (by repeat (first | with_reducible exact HO8.out | with_reducible exact Only.refl _ _ | with_reducible refine Only.drew ?_ | with_reducible refine Only.alloc ?_ _ | with_reducible refine Only.setCell ?_ (Or.inr ?_) _ | exact HO8.out.size))⟩
              case rest =>
              obtain ⟨⟨ya, rfl⟩, rfl, HOC⟩ := hcut
              obtain ⟨w8, rfl⟩ : ∃ wa, wa = wc := ⟨_, rfl⟩
              have HQ8 : Hid (LQ w0 w8 Z2 N S5 X O I O1 IS7 G7) := Lib.hid ((HQ7.out.same HOC.out).less (fun k hk => .inl hk))
              have HO8 : Hid (Only (fun k => ¬ Z2 k) w3 w8) := Lib.hid (HO7.out.trans (HOC.out.mono (fun _ x => x.elim)))
              obtain ⟨tk, HTKN⟩ : ∃ tk, Hid (m7.taken = tk) := ⟨_, Lib.hid rfl⟩
              have htkK : tk ≤ 60 := by rw [← HTKN.out]; have := HP7.out.sf.le2; omega
              have HTA : Hid (∀ w', Only Nobody w8 w' → Calls Tryd.prog 20 #[.pointer (some ⟨I, 0, none⟩)] w' fun e w'' => e = .returned (.int .i64 (tk : Int)) ∧ w' = w'') := Lib.hid fun w' ho => by
                have := taken_lq (HQ8.out.same ho)
                rw [HR7.out.taken, HTKN.out] at this
                exact this
              obtain ⟨d2, HD2⟩ : ∃ d, Hid (eAs tk = d) := ⟨_, Lib.hid rfl⟩
              have hds : d2.size ≤ 100000 := by rw [← HD2.out]; exact enc_A (by omega)
              have HEA : Hid (∀ w', Only Nobody w8 w' → Calls Tryd.prog 22 #[.agg #[.int .i64 2, .string ⟨#[113]⟩, .int .i64 (tk : Int), .string ⟨#[]⟩]] w' fun e w'' => e = .returned (.tuple #[.string d2, .int .i64 0]) ∧ Only Nobody w' w'') := Lib.hid fun w' ho => by
                rw [← HD2.out]
                exact enc_A_call (by omega) w' (HSD.out w' (HQ8.out.same ho).bel).tab
              obtain ⟨S6, Q, hse, hg6, hs6, hnw⟩ := sent_ok (c := d2) HGj.out HSj.out (.inr ⟨rfl, rfl⟩) (by have := HP7.out.len (by omega); omega) (by omega)
              have HSE := Lib.hid hse
              have HG6 := Lib.hid hg6
              have HS6 := Lib.hid hs6
              have HP8 := Lib.hid (HP7.out.ack (by rw [HTKN.out, HD2.out, HTT.out]; exact hnw))
              have HSN : Hid (∀ w', LQ w0 w' Z2 N S5 X O I O1 IS7 G7 → Calls Tryd.prog 54 #[.pointer (some ⟨N, 0, none⟩), .string ⟨#[98]⟩, .string ⟨#[97]⟩, .string d2] w' fun e w'' => e = .returned (.int .i64 0) ∧ LQ w0 w'' Z2 N S6 X O I O1 IS7 G7 ∧ Only (fun k => ¬ Z2 k) w' w'') := Lib.hid fun w' hq => by
                have h1 := send_lq plB plA d2 hq (small_of HGj.out (by omega)) (by unfold maxLen; omega)
                rw [HSE.out] at h1
                exact h1
              clear hse hg6 hs6 hnw x1 htk
              have x1 := HQ8.out.cells.2.1
              go_wp2_with fail
              refine (HTA.out _ (by repeat (first | with_reducible exact Only.refl _ _ | with_reducible refine Only.drew ?_ | with_reducible refine Only.alloc ?_ _))).mono ?_
              rintro e w9 ⟨rfl, rfl⟩
              go_wp2_with fail
              refine (HEA.out _ (by repeat (first | with_reducible exact Only.refl _ _ | with_reducible refine Only.drew ?_ | with_reducible refine Only.alloc ?_ _))).mono ?_
              rintro e w9 ⟨rfl, ho9⟩
              have HO9 : Hid (Only Nobody w8 w9) := Lib.hid (Only.trans (by repeat (first | with_reducible exact Only.refl _ _ | with_reducible refine Only.drew ?_ | with_reducible refine Only.alloc ?_ _)) ho9)
              have HQ9 := Lib.hid (HQ8.out.same HO9.out)
              obtain ⟨_, _, x3, xf3⟩ := HQ9.out.cells
              have HQ10 := Lib.hid HQ9.out.ok_
              clear ho9 x1
              go_wp2_with fail
              refine (HSN.out _ HQ10.out.1).mono ?_
              rintro e w11 ⟨rfl, hq11, ho11⟩
              have HQ11 := Lib.hid hq11
              have HO11 : Hid (Only (fun k => ¬ Z2 k) w3 w11) := Lib.hid (((HO8.out.trans (HO9.out.mono (fun _ x => x.elim))).trans HQ10.out.2).trans ho11)
              have HG11 := Lib.hid (HG6.out.mono (show n + 61 + j + 1 ≤ n + 61 + (j + 1) by omega))
              clear hq11 ho11 x3 xf3
              go_wp2_with fail
              go_roundw
              case rel => first | exact ⟨j + 1, _, S6, _, m7, IS7, G7, by go_num, by omega, HQ11, HG11, HS6, HR7, HP8, HNN, HO11⟩ | ((repeat apply Exists.intro); exact ⟨⟨j + 1, _, S6, _, m7, IS7, G7, by go_num, by omega, HQ11, HG11, HS6, HR7, HP8, HNN, HO11⟩, rfl⟩)
              case measure => simp [intOf]; omega
            | some x =>
              rw [hn] at HTL
              have hnx := HIT.out.1.symm.trans hn
              have HPT := Lib.hid (HP7.out.take hnx)
              have HRT := Lib.hid (HIT.out.2.1 (by rw [hnx]; rfl))
              clear hn hnx
              have hm7K := HPT.out.2.2
              go_upto_region 15 with fail
              go_cut [12, 13] (fun yv ev wx => ∃ Y : Nat, yv = .pointer (some ⟨Y, 0, none⟩) ∧ ev = .int .i64 0 ∧ Hid (Blk wx Y 36 #[.int .i64 x.n, .string x.t]) ∧ Hid (LQ w0 wx (fun k => (Z2 k ∨ k = D) ∨ k = Y) N S5 X O I O1 (tookI IS7) G7) ∧ Hid (Only (fun k => ¬ (Z2 k ∨ k = D)) wr wx))
              case first =>
                go_wp2_with fail
                refine (HTL.out).mono ?_
                rintro e w8 ⟨rfl, hq8, ho8⟩
                have HQ8 := Lib.hid hq8
                have HO8 := Lib.hid ho8
                have HB4 := Blk.new w8 36 #[.int .i64 0, .string ⟨#[]⟩]
                clear ho8 hq8
                go_wp2_with fail
                go_meet
                refine ⟨_, rfl, rfl, Lib.hid ?_, Lib.hid (HQ8.out.more1 ?_ ⟨Nat.le_refl _, by simp⟩), Lib.hid ?_⟩
                · first
                    | with_reducible exact Blk.new _ _ _
                    | exact ((HB4).set_ 0 _).set_ 1 _
                · repeat (first | with_reducible exact Only.refl _ _ | with_reducible refine Only.drew ?_ | with_reducible refine Only.alloc ?_ _ | with_reducible refine Only.setCell ?_ (Or.inr ?_) _ | exact Nat.le_refl _)
                · repeat (first | with_reducible exact HO8.out | with_reducible exact Only.refl _ _ | with_reducible refine Only.drew ?_ | with_reducible refine Only.alloc ?_ _ | with_reducible refine Only.setCell ?_ (Or.inr ?_) _ | exact HO8.out.size)
              case rest =>
              obtain ⟨Y, rfl, rfl, HBY, HQ8, HOC⟩ := hcut
              obtain ⟨w8, rfl⟩ : ∃ wa, wa = wc := ⟨_, rfl⟩
              have hLL := HQ8.out
              obtain ⟨F8, vO8, vG8, hL⟩ := hLL
              have HL := Lib.hid hL
              obtain ⟨Ag, cg, hvg⟩ := own_form hL.g
              obtain ⟨mg, HMG⟩ : ∃ mg, Hid (G7.length = mg) := ⟨_, Lib.hid rfl⟩
              rw [HMG.out] at hvg
              subst hvg
              have hmg : mg ≤ 60 := by
                have h1 := HP7.out.sf.got
                have h2 : G7.length = m7.taken := by rw [h1, List.length_map, List.length_range]
                have h3 := HP7.out.sf.le2
                rw [← HMG.out]
                omega
              have HBX : Hid (Blk w8 X 76 #[.pointer (some ⟨O, 0, none⟩), .pointer (some ⟨I, 0, none⟩), .slice Ag mg cg, .bool true]) := Lib.hid hL.x
              have HRC8 : Hid (w8.ownsRow w0.heap.size 36 2 (.slice Ag mg cg) mg (itsC G7)) := Lib.hid (by have h := hL.g; rw [HMG.out] at h; exact h)
              clear hL x1
              have hk2 : w8.cell? ⟨X, 2, none⟩ = some (.slice Ag mg cg) := HBX.out.cell 2
              have hk2a : (w8.alloc (.cells #[.int .i64 x.n, .string x.t] 36)).cell? ⟨X, 2, none⟩ = some (.slice Ag mg cg) := (HBX.out.alloc _).cell 2
              have y0 : w8.cell? ⟨Y, 0, none⟩ = some (.int .i64 x.n) := HBY.out.cell 0
              have y1 : w8.cell? ⟨Y, 1, none⟩ = some (.string x.t) := HBY.out.cell 1
              have HRWa : Hid (∀ w', Only Nobody w8 w' → w'.ownsRow w0.heap.size 36 2 (.slice Ag mg cg) mg (itsC G7)) := Lib.hid fun w' h => h.row HRC8.out (fun _ _ x => x)
              have HRD : Hid (Reads (w8.drew.alloc (.cells #[.int .i64 x.n, .string x.t] 36)) (w8.drew.heap.size + 1) 2 (some ⟨w8.drew.heap.size, 0, none⟩) 1 x.cells) := Lib.hid (reads_alloc w8.drew 36 #[.int .i64 x.n, .string x.t] 2 1 rfl)
              have HU : Hid (∀ u ∈ x.cells, u.oneCell' = true) := Lib.hid (by
                intro u hu
                simp only [It.cells, List.mem_cons, List.not_mem_nil, or_false] at hu
                rcases hu with rfl | rfl <;> rfl)
              have HKC : Hid (w0.heap.size ≤ w8.heap.size) := Lib.hid HQ8.out.bel.size
              have HBB : Hid (w0.heap.size ≤ (w8.drew.alloc (.cells #[.int .i64 x.n, .string x.t] 36)).heap.size) := Lib.hid (by have := HKC.out; simp; omega)
              have HBYT : Hid (mg + 1 ≤ maxLen ∧ (mg + 1) * 24 ≤ 140737488355328) := Lib.hid (by unfold maxLen; omega)
              obtain ⟨i0, hi0, hz0, hz1, hz2⟩ := info_parts infoIt
              have HNB : Hid (¬ (Value.slice Ag mg cg).ownBlock = some X) := Lib.hid (fun e => (HL.out.bg X e).1 rfl)
              go_upto_region 17 with fail
              go_region_law (first
                | (refine step_append_any _ (by rfl) (.tmp 120) (.tmp 122) 29 (by rfl) w0.heap.size 36 i0 _ 2 24 Tryd.underlying29 hi0 hz0 hz1 hz2 (by rfl) (by omega) (.slice Ag mg cg) mg (itsC G7) (by rfl) (HRWa.out _ (by repeat (first | with_reducible exact Only.refl _ _ | with_reducible refine Only.drew ?_ | with_reducible refine Only.alloc ?_ _))) _ (some ⟨w8.drew.heap.size, 0, none⟩) 1 1 x.cells (by rfl) HRD.out HU.out HBYT.out.1 HBYT.out.2 HBB.out ?_; intro v4 w4 hown4 hgrow4 hat4; obtain ⟨A4, c4, rfl⟩ := own_form hown4; have HOW4 := Lib.hid hown4; have HG4 := Lib.hid hgrow4; have HAT4 := Lib.hid hat4; have HB4 : Hid (Blk w4 X 76 #[.pointer (some ⟨O, 0, none⟩), .pointer (some ⟨I, 0, none⟩), .slice Ag mg cg, .bool true]) := Lib.hid ((Only.of_grown hgrow4 (F := fun b => Value.ownBlock (.slice Ag mg cg) = some b) (fun b e => e)).blk (HBX.out.drew.alloc _) (fun e => HNB.out e)); have hk2' : w4.cell? ⟨X, 2, none⟩ = some (.slice Ag mg cg) := HB4.out.cell 2; have hkf2 : w4.frozen? ⟨X, 2, none⟩ = false := HB4.out.frozen 2; clear hown4 hgrow4 hat4))
              all_goals
                have HO4 : Hid (Only (fun k => k = X ∨ (Value.slice Ag mg cg).ownBlock = some k) w8 (w4.setCell ⟨X, 2, none⟩ (.slice A4 (mg + 1) c4))) := Lib.hid ((((Only.refl _ w8).drew.alloc _).trans (Only.of_grown HG4.out (fun b e => .inr e))).setCell (p := ⟨X, 2, none⟩) (.inl (.inl rfl)) _)
                have HRW5 : Hid ((w4.setCell ⟨X, 2, none⟩ (.slice A4 (mg + 1) c4)).ownsRow w0.heap.size 36 2 (.slice A4 (mg + 1) c4) (G7 ++ [x]).length (itsC (G7 ++ [x]))) := Lib.hid (by
                  rw [itsC_append, List.length_append, HMG.out]
                  refine ((Only.refl (fun b => b = X) w4).setCell (p := ⟨X, 2, none⟩) (.inl rfl) _).row HOW4.out (fun b e e2 => ?_)
                  subst e2
                  rcases HAT4.out with h5 | h5
                  · exact HNB.out (h5.symm.trans e)
                  · rw [h5] at e
                    have h6 : w8.heap.size + 1 = b := by simpa using e
                    have := HBX.out.lt
                    omega)
                have HST5 := Lib.hid (HL.out.step_g (HB4.out.set_ 2 _) HRW5.out HO4.out (fun k e => by
                  rcases HAT4.out with h5 | h5
                  · exact .inl (h5.symm.trans e)
                  · rw [h5] at e
                    have h6 : w8.heap.size + 1 = k := by simpa using e
                    exact .inr (by omega)))
                have HQE : Hid (LQ w0 (w4.setCell ⟨X, 2, none⟩ (.slice A4 (mg + 1) c4)) (fun k => Z2 k ∨ k = D) N S5 X O I O1 (tookI IS7) (G7 ++ [x])) := Lib.hid (LQ.less ⟨_, _, _, HST5.out.1⟩ (fun k hk => .inl hk))
                have HOE : Hid (Only (fun k => ¬ Z2 k) w3 (w4.setCell ⟨X, 2, none⟩ (.slice A4 (mg + 1) c4))) := Lib.hid ((HO7.out.trans (HOC.out.mono (fun k hk hz => hk (.inl hz)))).trans (HST5.out.2.mono (fun k hk hz => hk (.inl (.inl hz)))))
                have HME : Hid (K - takenW (w4.setCell ⟨X, 2, none⟩ (.slice A4 (mg + 1) c4)) I < K - takenW wq I) := Lib.hid (by
                  have e1 := HQE.out.takenW
                  have e2 := HQ7.out.takenW
                  rw [← HWQ.out] at e2
                  have e3 : (tookI IS7).taken = IS7.taken + 1 := rfl
                  have e4 := HR7.out.taken
                  rw [e1, e2, e3]
                  omega)
                go_wp2_with fail
                go_roundw
                case rel => first | exact ⟨(takeM m7).2, tookI IS7, G7 ++ [x], HQE, HRT, Lib.hid HPT.out.1, HOE⟩ | ((repeat apply Exists.intro); exact ⟨⟨(takeM m7).2, tookI IS7, G7 ++ [x], HQE, HRT, Lib.hid HPT.out.1, HOE⟩, rfl⟩)
                case measure => first | exact HME.out | (rw [HWQ.out] at HME; exact HME.out)
        · obtain rfl : j = rq := by omega
          have HRI5 := HRj
          obtain ⟨S6, HS6⟩ : ∃ S6, Hid (netLeft S5 plA = S6) := ⟨_, Lib.hid rfl⟩
          obtain ⟨r2, HRL2⟩ : ∃ r2, Hid (netTake S5 plA = r2) := ⟨_, Lib.hid rfl⟩
          obtain ⟨rq2, HRQ2⟩ : ∃ rq2, Hid (r2.length = rq2) := ⟨_, Lib.hid rfl⟩
          have HL6 := Lib.hid (left_ok HGj.out HSj.out plA)
          rw [HS6.out, HRL2.out] at HL6
          have HAR2 : Hid (∀ c ∈ r2, ∃ a, a ≤ m.taken ∧ c.da = eAs a) := Lib.hid fun c hc => arr_a HP5.out HL6.out.1 hc
          have hrq2 : rq2 ≤ 5000 := by
            rw [← HRQ2.out, HL6.out.1.length_eq]
            have h1 := arr_len (P := P) (t := ((T + 1 : Nat) : Int)) (b := plA)
            have h2 := HP5.out.ct.a
            omega
          have HMT := Lib.hid HP5.out.sf.le2
          have HRC2 : Hid (∀ w', LQ w0 w' Z2 N S5 X O I O1 IS5 G5 → Calls Tryd.prog 56 #[.pointer (some ⟨N, 0, none⟩), .string ⟨#[97]⟩] w' fun e w'' => ∃ v b, e = .returned v ∧ w''.ownsRow b 113 2 v rq2 (pksOf r2) ∧ LQ w0 w'' (fun k => Z2 k ∨ v.ownBlock = some k) N S6 X O I O1 IS5 G5 ∧ Only (fun k => ¬ Z2 k) w' w'') := Lib.hid fun w' hq => by
            have h1 := recv_lq plA hq (small_of HGj.out (by omega)).pend (by decide)
            rw [HRL2.out, HS6.out, HRQ2.out] at h1
            exact h1.mono fun e w'' ⟨v, h4, h5, h6, h7⟩ => ⟨v, _, h4, h5, h6, h7⟩
          go_wp2_with fail
          refine (HRC2.out _ HQj.out).mono ?_
          rintro e w4 ⟨v4, b4, rfl, hr4, hq4, ho4⟩
          obtain ⟨A4, c4, rfl⟩ := own_form hr4
          have HR4 := Lib.hid hr4
          have HQ4 := Lib.hid hq4
          have HO4 : Hid (Only (fun k => ¬ Z k) w w4) := Lib.hid (HOW1.out.trans (((HO3.out.trans ((HOj.out.trans ho4).mono (fun k hk hz => hk (HZZ2.out k hz)))).mono (fun k hk hz => hk (HZZ.out k hz)))))
          clear hr4 hq4 ho4
          obtain ⟨Z4, HZ4⟩ : ∃ Z4 : Nat → Prop, Hid (Z4 = fun k => Z2 k ∨ (Value.slice A4 rq2 c4).ownBlock = some k) := ⟨_, Lib.hid rfl⟩
          rw [← HZ4.out] at HQ4
          have HZZ4 : Hid (∀ k, Z k → Z4 k) := Lib.hid fun k hk => by rw [HZ4.out]; exact .inl (HZZ2.out k (HZZ.out k hk))
          have HZB4 : Hid (∀ k, (Value.slice A4 rq2 c4).ownBlock = some k → Z4 k) := Lib.hid fun k hk => by rw [HZ4.out]; exact .inr hk
          have HPS : Hid (P4 K txS eAs (T + 1) O1 m G5 r2 0 O1) := Lib.hid (by
            have h := p4_start (K := K) (tx := txS) (eA := eAs) (r := r2) HP5.out.sf
            rw [HTT.out, HO1.out] at h
            exact h)
          go_wp2_with fail
          go_loopw [16] (fun kv wx => ∃ (i : Nat) (OO : OutS), kv = .int .i64 (i : Int) ∧ i ≤ rq2 ∧ Hid (LQ w0 wx Z4 N S6 X O I OO IS5 G5) ∧ Hid (P4 K txS eAs (T + 1) O1 m G5 r2 i OO) ∧ Hid (Only (fun k => ¬ Z4 k) w4 wx)) (fun kv _ => rq2 - (intOf kv).toNat)
          case atStart => exact ⟨0, O1, rfl, Nat.zero_le _, HQ4, HPS, Lib.hid (Only.refl _ _)⟩
          case round =>
            clear hj0 hj hjq
            obtain ⟨i, OO, rfl, hj, HQi, HPi, HOi⟩ := hrel
            have hj0 : (0 : Int) ≤ (i : Int) := by omega
            by_cases hjq : i < rq2
            · have hjI : (i : Int) < (rq2 : Int) := by omega
              obtain ⟨c, hc⟩ : ∃ c, r2[i]? = some c := ⟨_, List.getElem?_eq_getElem (by rw [HRQ2.out]; exact hjq)⟩
              obtain ⟨a, ha, hcd⟩ := HAR2.out c (List.mem_of_getElem? hc)
              have HC := Lib.hid hc
              have HCD := Lib.hid hcd
              obtain ⟨g, hA, hbg, hgl, hqc, hcells⟩ := pk_at HRQ2.out (HOi.out.row HR4.out (fun k e h => h (HZB4.out k e))) (by omega)
              subst hA
              obtain ⟨_, a1⟩ := hcells i c hc
              have ha60 : a ≤ 60 := by have := HMT.out; omega
              have HDE : Hid (∀ w', Only Nobody wr w' → Calls Tryd.prog 37 #[.string c.da] w' fun e w'' => e = .returned (.tuple #[.agg #[.int .i64 2, .string ⟨#[113]⟩, .int .i64 (a : Int), .string ⟨#[]⟩], .int .i64 0]) ∧ Only Nobody w' w'') := Lib.hid fun w' ho => by
                rw [HCD.out]
                exact dec_A_call ha60 w' (HSD.out w' (HQi.out.same ho).bel)
              have hak := HPi.out.ack HINJA.out hc ha hcd
              have HAKE := Lib.hid hak.1
              have HPN := Lib.hid hak.2
              obtain ⟨O2, HO2'⟩ : ∃ O2, Hid ((ackO OO a).2 = O2) := ⟨_, Lib.hid rfl⟩
              rw [HO2'.out] at HPN
              have htot := HPi.out.sf.tot
              have HTOT := Lib.hid htot
              clear hcells hc hcd hak htot
              go_upto_region 25 with fail
              go_cut [17, 18] (fun dv ev wx => ∃ D : Nat, dv = .pointer (some ⟨D, 0, none⟩) ∧ ev = .int .i64 0 ∧ Hid (Blk wx D 49 #[.int .i64 2, .string ⟨#[113]⟩, .int .i64 (a : Int), .string ⟨#[]⟩]) ∧ wr.heap.size ≤ D ∧ D < wx.heap.size ∧ Hid (Only Nobody wr wx))
              case first =>
                go_wp2_with fail
                refine (HDE.out _ (by repeat (first | with_reducible exact Only.refl _ _ | with_reducible refine Only.drew ?_ | with_reducible refine Only.alloc ?_ _))).mono ?_
                rintro e w5 ⟨rfl, ho5⟩
                have HO5 := Lib.hid ho5
                have HB5 := Blk.new w5 49 #[.int .i64 0, .string ⟨#[]⟩, .int .i64 0, .string ⟨#[]⟩]
                clear ho5
                go_wp2_with fail
                go_meet
                refine ⟨_, rfl, rfl, Lib.hid ?_, HO5.out.size, ?_, Lib.hid ?_⟩
                · first
                    | with_reducible exact Blk.new _ _ _
                    | exact ((((HB5).set_ 0 _).set_ 1 _).set_ 2 _).set_ 3 _
                · simp
                · repeat (first | with_reducible exact HO5.out | with_reducible exact Only.refl _ _ | with_reducible refine Only.drew ?_ | with_reducible refine Only.alloc ?_ _ | with_reducible refine Only.setCell ?_ (Or.inr ?_) _ | exact HO5.out.size)
              case rest =>
              obtain ⟨D, rfl, rfl, HBD, hD1, hD2, HOC⟩ := hcut
              obtain ⟨wd, rfl⟩ : ∃ wa, wa = wc := ⟨_, rfl⟩
              have HQc := Lib.hid (HQi.out.more1 HOC.out ⟨hD1, hD2⟩)
              have HS26 : Hid (∀ w' OX, LQ w0 w' (fun k => Z4 k ∨ k = D) N S6 X O I OX IS5 G5 → Only (fun k => ¬ (Z4 k ∨ k = D)) wd w' → w'.cell? ⟨X, 3, none⟩ = some (.bool true) ∧ w'.frozen? ⟨X, 3, none⟩ = false ∧ w'.cell? ⟨X, 0, none⟩ = some (.pointer (some ⟨O, 0, none⟩)) ∧ w'.cell? ⟨D, 0, none⟩ = some (.int .i64 2) ∧ w'.cell? ⟨D, 2, none⟩ = some (.int .i64 (a : Int))) := Lib.hid fun w' OX hq ho => ⟨hq.cells.2.2.1, hq.cells.2.2.2, hq.cells.1, (ho.blk HBD.out (fun h => h (.inr rfl))).cell 0, (ho.blk HBD.out (fun h => h (.inr rfl))).cell 2⟩
              have HSN26 : Hid (∀ w', Only Nobody wd w' → w'.cell? ⟨X, 3, none⟩ = some (.bool true) ∧ w'.frozen? ⟨X, 3, none⟩ = false ∧ w'.cell? ⟨X, 0, none⟩ = some (.pointer (some ⟨O, 0, none⟩)) ∧ w'.cell? ⟨D, 0, none⟩ = some (.int .i64 2) ∧ w'.cell? ⟨D, 2, none⟩ = some (.int .i64 (a : Int))) := Lib.hid fun w' ho => HS26.out w' _ (HQc.out.same ho) (ho.mono (fun _ x => x.elim))
              have HAK : Hid (∀ w', Only Nobody wd w' → Calls Tryd.prog 26 #[.pointer (some ⟨O, 0, none⟩), .int .i64 (a : Int)] w' fun e w'' => e = .returned (.int .i64 0) ∧ LQ w0 w'' (fun k => Z4 k ∨ k = D) N S6 X O I O2 IS5 G5 ∧ Only (fun k => ¬ (Z4 k ∨ k = D)) w' w'') := Lib.hid fun w' ho => by
                have h1 := ack_lq (a : Int) (HQc.out.same ho) (by have := HTOT.out; omega) (by have := HTOT.out; omega)
                rw [HAKE.out, HO2'.out] at h1
                exact h1
              clear a1 ha60
              obtain ⟨x3, xf3, x0, d0, d2⟩ := HSN26.out wd (Only.refl _ _)
              go_upto_region 26 with fail
              go_region_held3 (fun w' => w'.cell? ⟨X, 3, none⟩ = some (.bool true) ∧ w'.frozen? ⟨X, 3, none⟩ = false ∧ w'.cell? ⟨X, 0, none⟩ = some (.pointer (some ⟨O, 0, none⟩)) ∧ w'.cell? ⟨D, 0, none⟩ = some (.int .i64 2) ∧ w'.cell? ⟨D, 2, none⟩ = some (.int .i64 (a : Int))) (first | exact hs7 | exact hs8 | exact HSN26.out _ (by repeat (first | with_reducible exact Only.refl _ _ | with_reducible refine Only.drew ?_ | with_reducible refine Only.alloc ?_ _))) (first
                | (go_at_call 26; refine (HAK.out _ (by repeat (first | with_reducible exact Only.refl _ _ | with_reducible refine Only.drew ?_ | with_reducible refine Only.alloc ?_ _))).mono ?_; rintro e w7 ⟨rfl, hq7, ho7⟩; have HQ7 := Lib.hid hq7; have HO7 : Hid (Only (fun k => ¬ (Z4 k ∨ k = D)) wd w7) := Lib.hid (Only.trans (by repeat (first | with_reducible exact Only.refl _ _ | with_reducible refine Only.drew ?_ | with_reducible refine Only.alloc ?_ _)) ho7); have hs7 := HS26.out w7 _ hq7 HO7.out; have hs8 := HS26.out _ _ hq7.ok_.1 (HO7.out.trans hq7.ok_.2); obtain ⟨z3, zf3, z0, e0, e2⟩ := hs7; have hs7 := HS26.out w7 _ hq7 HO7.out; clear hq7 ho7))
              all_goals
                have HQ8 : Hid (LQ w0 (w7.setCell ⟨X, 3, none⟩ (.bool true)) Z4 N S6 X O I O2 IS5 G5) := Lib.hid (HQ7.out.ok_.1.less (fun k hk => .inl hk))
                have HO8 : Hid (Only (fun k => ¬ Z4 k) w4 (w7.setCell ⟨X, 3, none⟩ (.bool true))) := Lib.hid ((HOi.out.trans (HOC.out.mono (fun _ x => x.elim))).trans ((HO7.out.trans HQ7.out.ok_.2).mono (fun k hk hz => hk (.inl hz))))
                go_wp2_with fail
                go_roundw
                case rel => first | exact ⟨i + 1, O2, by go_num, by omega, HQ8, HPN, HO8⟩ | ((repeat apply Exists.intro); exact ⟨⟨i + 1, O2, by go_num, by omega, HQ8, HPN, HO8⟩, rfl⟩)
                case measure => simp [intOf]; omega
            · obtain rfl : i = rq2 := by omega
              have hend := lk_end (r := r) (r2 := r2) (Pa := Pa) (use1 := use1) (use := use) (Pb := P) (m := m) (G' := G5) (O' := OO) HK.out hK (h1 := by rw [HLL.out, HLQ.out]; exact HP1.out) (by rw [HTT.out]; exact HL4.out.1) (h3 := by rw [HRQ.out]; exact HP5.out) HGAP.out (by rw [HTT.out]; exact HL6.out.1) (h4 := by rw [HTT.out, HO1.out, HRQ2.out]; exact HPi.out)
              have HEND := Lib.hid hend
              clear hend
              go_wp2_with fail
              go_end0
              exact ⟨rfl, n + 310, _, G5, ⟨S6, IS5, HQi.out.less (fun k hk => HZZ4.out k hk), by rw [HTT.out]; exact HL6.out.2.1.mono (by omega), by show St S6 (s.T + 1) _ _ _; rw [HTT.out]; exact HL6.out.2.2, HRI5.out, HEND.out.1⟩, rfl, rfl, rfl, rfl, HEND.out.2, HO4.out.trans (HOi.out.mono (fun k hk hz => hk (HZZ4.out k hz)))⟩
end Go.Proofs.YthmndclmecnpmaaDoor
