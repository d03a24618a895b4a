/- Path: the law PathReturns. -/
import Derived.Test.YtdccckoelnnnoaaDoorGeL
import Derived.Test.YtdccckoelnnnoaaDoorSetB
namespace Go.Proofs.YtdccckoelnnnoaaDoor
open Go.RowKit
attribute [local go_sem ↓] Go.wp_at_zero Go.wp_at_succ

def OwnPtc (q : Nat) (Z : List Pt) (w1 : World) (e : Ending) (w2 : World) : Prop := ∃ Y s, e = .returned (.slice Y q s) ∧ q ≤ s ∧ Pts w2 Y q Z ∧ Only Nobody w1 w2
theorem own_ptc (X : Option Addr) (q r : Nat) (Z : List Pt) (w1 : World) (hq : q ≤ 1000) (hp : Pts w1 X q Z) : Calls Tryd.prog 11 #[.slice X q r] w1 (OwnPtc q Z w1) := (own_any X q r Z hq w1 hp).mono (by
    rintro e w2 ⟨vo, rfl, hown, ho2⟩
    rw [hp.len] at hown
    obtain ⟨Y, s, rfl⟩ := own_form hown
    refine ⟨Y, s, rfl, ?_, Pts.of_own hown, ho2⟩
    rcases hown.2 with ⟨_, h0⟩ | ⟨g, cap, cur, hv, _, _, hc, _⟩
    · omega
    · injection hv with _ _ h3
      omega)
/-- What is found at a path without All is no larger than the tree. -/
theorem findT_le {B : Nat} {O : VT} : ∀ {l : List Pt} {A : List VT}, everyL l = false → A.length ≤ 1 → (∀ X ∈ A, X.size ≤ B) → findT A l = some [O] → O.size ≤ B
  | [], A, _, _, hb, h => by cases h; exact hb O (by simp)
  | p :: l, A, he, ha, hb, h => by
    have he' : (p.kind == 3) = false ∧ everyL l = false := by simpa [everyL] using he
    simp only [findT] at h
    split at h
    · rename_i hall
      match A, ha with
      | [], _ => exact findT_le he'.2 (by simp [leadsL]) (by simp [leadsL]) h
      | [X], _ =>
        have h1 : appT p X = true := by simpa using hall
        have h2 := leadL_one h1 he'.1
        have h3 := lead_size p X
        have h4 := hb X (by simp)
        have h5 : leadsL p [X] = leadL p X := by simp [leadsL]
        rw [h5] at h
        exact findT_le he'.2 h2 (fun Y hY => Nat.le_trans (sizeL_in hY) (Nat.le_trans h3 h4)) h
    · cases h
/-- What the law asks of Set and Get. -/
theorem ret_facts {L : List Pt} {T X T' : VT} (hok : okL L = true) (he : everyL L = false) (h : ChR L T X 0 T') :
    (findE T' L = 0 ∧ getV T' L = X) ∧ (findE T L = 19 ∨ (∃ O, findE T L = 0 ∧ getV T L = O ∧ O.size ≤ T.size ∧ (∀ {e : Int} {Y : VT}, ChR L T O e Y → e = 0 ∧ Y = T) ∧ (∀ {e : Int} {Y : VT}, ChR L T' O e Y → e = 0 ∧ Y = T))) := by
  obtain ⟨_, _, hall, _, _⟩ := okL_parts hok
  have h1 := getV_one hok he (ch_find hall he h)
  refine ⟨h1, ?_⟩
  obtain ⟨R, hR, hl⟩ := ch_applies hall he h
  match R, hl with
  | [], _ => exact .inl (getV_none hok he hR)
  | [O], _ =>
    obtain ⟨g1, g2⟩ := getV_one hok he hR
    have hs : O.size ≤ T.size := findT_le he (by simp) (by simp) hR
    have hb := ch_back hall he h hR
    exact .inr ⟨O, g1, g2, by omega, hb.1, hb.2⟩

set_option maxRecDepth 100000 in
set_option maxHeartbeats 32000000 in
theorem lawRet (v x : VC) (T X : VT) (S : Nat → Prop) (n nx : Nat) (A : Option Addr) (m c : Nat) (L : List Pt) {w : World} (hsz : T.size ≤ 140737488351232) (hszX : X.size ≤ 140737488351232) (h : VAt w S n v T) (hx : VAt w S nx x X) (ha : Pts w A m L) (hs : Std w) : Calls Tryd.prog 3 #[.agg #[.int .i64 v.k, .int .i64 v.i, .int .i64 v.s, .string v.t, .slice v.la v.ln v.lc, .slice v.fa v.fn v.fc], .slice A m c, .agg #[.int .i64 x.k, .int .i64 x.i, .int .i64 x.s, .string x.t, .slice x.la x.ln x.lc, .slice x.fa x.fn x.fc]] w fun e w' => e = .returned (.bool true) ∧ Only Nobody w w' := by
  have HV := Lib.hid h
  have HX := Lib.hid hx
  have HP := Lib.hid ha
  have HS := Lib.hid hs
  have HSZ := Lib.hid hsz
  have HSX := Lib.hid hszX
  clear h hx ha hs hsz hszX
  obtain ⟨N, HN⟩ : ∃ N, Hid (w.heap.size = N) := ⟨_, Lib.hid rfl⟩
  obtain ⟨W, HW⟩ : ∃ W, Hid (W = ((w.alloc (.cells #[.int .i64 v.k, .int .i64 v.i, .int .i64 v.s, .string v.t, .slice v.la v.ln v.lc, .slice v.fa v.fn v.fc] 25)).alloc (.cells #[.int .i64 x.k, .int .i64 x.i, .int .i64 x.s, .string x.t, .slice x.la x.ln x.lc, .slice x.fa x.fn x.fc] 25))) := ⟨_, Lib.hid rfl⟩
  have HOA : Hid (Only Nobody w W) := Lib.hid (by rw [HW.out]; exact ((Only.refl _ _).alloc _).alloc _)
  have HB0 : Hid (Blk W (N) 25 #[.int .i64 v.k, .int .i64 v.i, .int .i64 v.s, .string v.t, .slice v.la v.ln v.lc, .slice v.fa v.fn v.fc]) := Lib.hid (by
    have := (Blk.new w 25 #[.int .i64 v.k, .int .i64 v.i, .int .i64 v.s, .string v.t, .slice v.la v.ln v.lc, .slice v.fa v.fn v.fc])
    rw [HW.out, ← HN.out]
    simpa using (this.alloc (.cells #[.int .i64 x.k, .int .i64 x.i, .int .i64 x.s, .string x.t, .slice x.la x.ln x.lc, .slice x.fa x.fn x.fc] 25)))
  have HB1 : Hid (Blk W (N + 1) 25 #[.int .i64 x.k, .int .i64 x.i, .int .i64 x.s, .string x.t, .slice x.la x.ln x.lc, .slice x.fa x.fn x.fc]) := Lib.hid (by
    have := (Blk.new (w.alloc (.cells #[.int .i64 v.k, .int .i64 v.i, .int .i64 v.s, .string v.t, .slice v.la v.ln v.lc, .slice v.fa v.fn v.fc] 25)) 25 #[.int .i64 x.k, .int .i64 x.i, .int .i64 x.s, .string x.t, .slice x.la x.ln x.lc, .slice x.fa x.fn x.fc])
    rw [HW.out, ← HN.out]
    simpa using this)
  have HWS : Hid (W.heap.size = N + 2) := Lib.hid (by rw [HW.out, ← HN.out]; simp)
  go_enter Tryd.func3, Tryd.ntmps3
  go_upto_region 1 with fail
  rw [← HW.out, HN.out]
  have HBV : Hid (∀ w', Only Nobody W w' → Blk w' N 25 #[.int .i64 v.k, .int .i64 v.i, .int .i64 v.s, .string v.t, .slice v.la v.ln v.lc, .slice v.fa v.fn v.fc]) := Lib.hid fun w' h => h.blk HB0.out (fun x => x)
  have HBX : Hid (∀ w', Only Nobody W w' → Blk w' (N + 1) 25 #[.int .i64 x.k, .int .i64 x.i, .int .i64 x.s, .string x.t, .slice x.la x.ln x.lc, .slice x.fa x.fn x.fc]) := Lib.hid fun w' h => h.blk HB1.out (fun x => x)
  clear HB0 HB1
  go_wp2_with fail
  refine (known_any _ (HS.out.same HOA.out)).mono ?_
  rintro e w1 ⟨rfl, ho⟩
  have HW1 := Lib.hid ho
  have HO1 := Lib.hid (HOA.out.trans ho)
  clear ho
  have b0 : w1.cell? ⟨N, 0, none⟩ = some (.int .i64 v.k) := ((HBV.out w1 HW1.out)).cell 0
  have b1 : w1.cell? ⟨N, 1, none⟩ = some (.int .i64 v.i) := ((HBV.out w1 HW1.out)).cell 1
  have b2 : w1.cell? ⟨N, 2, none⟩ = some (.int .i64 v.s) := ((HBV.out w1 HW1.out)).cell 2
  have b3 : w1.cell? ⟨N, 3, none⟩ = some (.string v.t) := ((HBV.out w1 HW1.out)).cell 3
  have b4 : w1.cell? ⟨N, 4, none⟩ = some (.slice v.la v.ln v.lc) := ((HBV.out w1 HW1.out)).cell 4
  have b5 : w1.cell? ⟨N, 5, none⟩ = some (.slice v.fa v.fn v.fc) := ((HBV.out w1 HW1.out)).cell 5
  go_wp2_with fail
  refine (small_any v T S n _ HSZ.out (HV.out.same HO1.out)).mono ?_
  rintro e w2 ⟨bsm, rfl, ho⟩
  have HW2 := Lib.hid (HW1.out.trans ho)
  have HO2 := Lib.hid (HO1.out.trans ho)
  clear ho b0 b1 b2 b3 b4 b5
  cases bsm with
  | false =>
    go_wp2_with fail
    refine (known_any _ (HS.out.same HO2.out)).mono ?_
    rintro e wk ⟨rfl, hok⟩
    have HOk := Lib.hid (HO2.out.trans hok)
    clear hok
    go_wp2_with fail
    go_ret
    exact ⟨rfl, HOk.out⟩
  | true =>
    have y0 : w2.cell? ⟨N + 1, 0, none⟩ = some (.int .i64 x.k) := ((HBX.out w2 HW2.out)).cell 0
    have y1 : w2.cell? ⟨N + 1, 1, none⟩ = some (.int .i64 x.i) := ((HBX.out w2 HW2.out)).cell 1
    have y2 : w2.cell? ⟨N + 1, 2, none⟩ = some (.int .i64 x.s) := ((HBX.out w2 HW2.out)).cell 2
    have y3 : w2.cell? ⟨N + 1, 3, none⟩ = some (.string x.t) := ((HBX.out w2 HW2.out)).cell 3
    have y4 : w2.cell? ⟨N + 1, 4, none⟩ = some (.slice x.la x.ln x.lc) := ((HBX.out w2 HW2.out)).cell 4
    have y5 : w2.cell? ⟨N + 1, 5, none⟩ = some (.slice x.fa x.fn x.fc) := ((HBX.out w2 HW2.out)).cell 5
    go_wp2_with fail
    refine (small_any x X S nx _ HSX.out (HX.out.same HO2.out)).mono ?_
    rintro e w3 ⟨bsx, rfl, ho⟩
    have HW3 := Lib.hid (HW2.out.trans ho)
    have HO3 := Lib.hid (HO2.out.trans ho)
    clear ho y0 y1 y2 y3 y4 y5
    cases bsx with
    | false =>
      go_wp2_with fail
      refine (known_any _ (HS.out.same HO3.out)).mono ?_
      rintro e wk ⟨rfl, hok⟩
      have HOk := Lib.hid (HO3.out.trans hok)
      clear hok
      go_wp2_with fail
      go_ret
      exact ⟨rfl, HOk.out⟩
    | true =>
      by_cases hm20 : 20 < m
      · have hmI : (20 : Int) < (m : Int) := by omega
        go_wp2_with fail
        refine (known_any _ (HS.out.same HO3.out)).mono ?_
        rintro e wk ⟨rfl, hok⟩
        have HOk := Lib.hid (HO3.out.trans hok)
        clear hok
        go_wp2_with fail
        go_ret
        exact ⟨rfl, HOk.out⟩
      · have hmI : ¬ (20 : Int) < (m : Int) := by omega
        have hm : m ≤ 1000 := by omega
        go_wp2_with fail
        refine (own_ptc A m c L _ hm (HP.out.same HO3.out)).mono ?_
        rintro e w4 ⟨Y4, s4, rfl, hms4, hp4, ho⟩
        have HP4 := Lib.hid hp4
        have HW4 := Lib.hid (HW3.out.trans ho)
        have HO4 := Lib.hid (HO3.out.trans ho)
        clear ho hp4
        have b0 : w4.cell? ⟨N, 0, none⟩ = some (.int .i64 v.k) := ((HBV.out w4 HW4.out)).cell 0
        have b1 : w4.cell? ⟨N, 1, none⟩ = some (.int .i64 v.i) := ((HBV.out w4 HW4.out)).cell 1
        have b2 : w4.cell? ⟨N, 2, none⟩ = some (.int .i64 v.s) := ((HBV.out w4 HW4.out)).cell 2
        have b3 : w4.cell? ⟨N, 3, none⟩ = some (.string v.t) := ((HBV.out w4 HW4.out)).cell 3
        have b4 : w4.cell? ⟨N, 4, none⟩ = some (.slice v.la v.ln v.lc) := ((HBV.out w4 HW4.out)).cell 4
        have b5 : w4.cell? ⟨N, 5, none⟩ = some (.slice v.fa v.fn v.fc) := ((HBV.out w4 HW4.out)).cell 5
        have y0 : w4.cell? ⟨N + 1, 0, none⟩ = some (.int .i64 x.k) := ((HBX.out w4 HW4.out)).cell 0
        have y1 : w4.cell? ⟨N + 1, 1, none⟩ = some (.int .i64 x.i) := ((HBX.out w4 HW4.out)).cell 1
        have y2 : w4.cell? ⟨N + 1, 2, none⟩ = some (.int .i64 x.s) := ((HBX.out w4 HW4.out)).cell 2
        have y3 : w4.cell? ⟨N + 1, 3, none⟩ = some (.string x.t) := ((HBX.out w4 HW4.out)).cell 3
        have y4 : w4.cell? ⟨N + 1, 4, none⟩ = some (.slice x.la x.ln x.lc) := ((HBX.out w4 HW4.out)).cell 4
        have y5 : w4.cell? ⟨N + 1, 5, none⟩ = some (.slice x.fa x.fn x.fc) := ((HBX.out w4 HW4.out)).cell 5
        go_wp2_with fail
        have hTs : T.size ≤ 140737488351232 := HSZ.out
        have hXs : X.size ≤ 140737488351232 := HSX.out
        refine (set_any v x T X S (max n nx) Y4 m s4 L w4 hTs hXs hm hms4 ((HV.out.same HO4.out).le (by omega)) ((HX.out.same HO4.out).le (by omega)) HP4.out (HS.out.same HO4.out).tab).mono ?_
        rintro e w5 ⟨er, y, T', n5, rfl, hset, _, ho⟩
        have HSET := Lib.hid hset
        have HW45 := Lib.hid ho
        have HW5 := Lib.hid (HW4.out.trans ho)
        have HO5 := Lib.hid (HO4.out.trans ho)
        clear ho hset b0 b1 b2 b3 b4 b5 y0 y1 y2 y3 y4 y5
        unfold retV
        by_cases her : er = 0
        · subst her
          obtain ⟨hok, hev, hch, hvy⟩ := HSET.out rfl
          obtain ⟨⟨hE', hG'⟩, hold⟩ := ret_facts hok hev hch
          have hT's : T'.size ≤ 140737488351232 := by
            have h1 := ch_size hch
            omega
          have HOK := Lib.hid hok
          have HEV := Lib.hid hev
          have HCH := Lib.hid hch
          have HVY := Lib.hid hvy.any
          have HE1 := Lib.hid hE'
          have HG1 := Lib.hid hG'
          have HOLD := Lib.hid hold
          clear hok hev hch hvy hE' hG' hold
          go_upto_region 5 with fail
          obtain ⟨W5, HWW5⟩ : ∃ W5, Hid (W5 = w5.alloc (.cells #[.int .i64 y.k, .int .i64 y.i, .int .i64 y.s, .string y.t, .slice y.la y.ln y.lc, .slice y.fa y.fn y.fc] 25)) := ⟨_, Lib.hid rfl⟩
          rw [← HWW5.out]
          have HA5 : Hid (Only Nobody w5 W5) := Lib.hid (by rw [HWW5.out]; exact (Only.refl _ _).alloc _)
          have HBxy : Hid (∀ w', Only Nobody W5 w' → Blk w' w5.heap.size 25 #[.int .i64 y.k, .int .i64 y.i, .int .i64 y.s, .string y.t, .slice y.la y.ln y.lc, .slice y.fa y.fn y.fc]) := Lib.hid fun w' h => h.blk (by rw [HWW5.out]; exact Blk.new _ _ _) (fun x => x)
          have HQ5 := Lib.hid (HO5.out.trans HA5.out)
          have HRR := Lib.hid (Only.refl Nobody W5)
          have HY5 := Lib.hid (HVY.out.same HA5.out)
          have HW5' := Lib.hid (HW5.out.trans HA5.out)
          have y0 : W5.cell? ⟨w5.heap.size, 0, none⟩ = some (.int .i64 y.k) := ((HBxy.out W5 HRR.out)).cell 0
          have y1 : W5.cell? ⟨w5.heap.size, 1, none⟩ = some (.int .i64 y.i) := ((HBxy.out W5 HRR.out)).cell 1
          have y2 : W5.cell? ⟨w5.heap.size, 2, none⟩ = some (.int .i64 y.s) := ((HBxy.out W5 HRR.out)).cell 2
          have y3 : W5.cell? ⟨w5.heap.size, 3, none⟩ = some (.string y.t) := ((HBxy.out W5 HRR.out)).cell 3
          have y4 : W5.cell? ⟨w5.heap.size, 4, none⟩ = some (.slice y.la y.ln y.lc) := ((HBxy.out W5 HRR.out)).cell 4
          have y5 : W5.cell? ⟨w5.heap.size, 5, none⟩ = some (.slice y.fa y.fn y.fc) := ((HBxy.out W5 HRR.out)).cell 5
          go_wp2_with fail
          refine (get_any y T' Any_ n5 Y4 m s4 L W5 (fit_one HEV.out hT's) HY5.out (HP4.out.same (HW45.out.trans HA5.out)) hm (HS.out.same HQ5.out).tab).mono ?_
          rintro e w6 ⟨z, rfl, hz, ho⟩
          rw [HE1.out]
          rw [HG1.out] at hz
          have HZ := Lib.hid hz.any
          have HO6 := Lib.hid (HQ5.out.trans ho)
          have HW6 := Lib.hid (HW5'.out.trans ho)
          have HW56 := Lib.hid ho
          clear hz ho y0 y1 y2 y3 y4 y5
          go_upto_region 8 with fail
          obtain ⟨W6, HWW6⟩ : ∃ W6, Hid (W6 = w6.alloc (.cells #[.int .i64 z.k, .int .i64 z.i, .int .i64 z.s, .string z.t, .slice z.la z.ln z.lc, .slice z.fa z.fn z.fc] 25)) := ⟨_, Lib.hid rfl⟩
          rw [← HWW6.out]
          have HA6 : Hid (Only Nobody w6 W6) := Lib.hid (by rw [HWW6.out]; exact (Only.refl _ _).alloc _)
          have HBxz : Hid (∀ w', Only Nobody W6 w' → Blk w' w6.heap.size 25 #[.int .i64 z.k, .int .i64 z.i, .int .i64 z.s, .string z.t, .slice z.la z.ln z.lc, .slice z.fa z.fn z.fc]) := Lib.hid fun w' h => h.blk (by rw [HWW6.out]; exact Blk.new _ _ _) (fun x => x)
          have HQ6 := Lib.hid (HO6.out.trans HA6.out)
          have HRR := Lib.hid (Only.refl Nobody W6)
          have HZ6 := Lib.hid (HZ.out.same HA6.out)
          have HW6' := Lib.hid (HW6.out.trans HA6.out)
          have z0 : W6.cell? ⟨w6.heap.size, 0, none⟩ = some (.int .i64 z.k) := ((HBxz.out W6 HRR.out)).cell 0
          have z1 : W6.cell? ⟨w6.heap.size, 1, none⟩ = some (.int .i64 z.i) := ((HBxz.out W6 HRR.out)).cell 1
          have z2 : W6.cell? ⟨w6.heap.size, 2, none⟩ = some (.int .i64 z.s) := ((HBxz.out W6 HRR.out)).cell 2
          have z3 : W6.cell? ⟨w6.heap.size, 3, none⟩ = some (.string z.t) := ((HBxz.out W6 HRR.out)).cell 3
          have z4 : W6.cell? ⟨w6.heap.size, 4, none⟩ = some (.slice z.la z.ln z.lc) := ((HBxz.out W6 HRR.out)).cell 4
          have z5 : W6.cell? ⟨w6.heap.size, 5, none⟩ = some (.slice z.fa z.fn z.fc) := ((HBxz.out W6 HRR.out)).cell 5
          have x0 : W6.cell? ⟨N + 1, 0, none⟩ = some (.int .i64 x.k) := ((HBX.out W6 HW6'.out)).cell 0
          have x1 : W6.cell? ⟨N + 1, 1, none⟩ = some (.int .i64 x.i) := ((HBX.out W6 HW6'.out)).cell 1
          have x2 : W6.cell? ⟨N + 1, 2, none⟩ = some (.int .i64 x.s) := ((HBX.out W6 HW6'.out)).cell 2
          have x3 : W6.cell? ⟨N + 1, 3, none⟩ = some (.string x.t) := ((HBX.out W6 HW6'.out)).cell 3
          have x4 : W6.cell? ⟨N + 1, 4, none⟩ = some (.slice x.la x.ln x.lc) := ((HBX.out W6 HW6'.out)).cell 4
          have x5 : W6.cell? ⟨N + 1, 5, none⟩ = some (.slice x.fa x.fn x.fc) := ((HBX.out W6 HW6'.out)).cell 5
          go_wp2_with fail
          refine (same_eq (max (n5 + 1) nx) z x X Any_ S W6 (by omega) (HZ6.out.le (by omega)) ((HX.out.same HQ6.out).le (by omega))).mono ?_
          rintro e w7 ⟨rfl, ho⟩
          have HO7 := Lib.hid (HQ6.out.trans ho)
          have HW7 := Lib.hid (HW6'.out.trans ho)
          have HW57 := Lib.hid (HW56.out.trans (HA6.out.trans ho))
          clear ho z0 z1 z2 z3 z4 z5 x0 x1 x2 x3 x4 x5
          have b0 : w7.cell? ⟨N, 0, none⟩ = some (.int .i64 v.k) := ((HBV.out w7 HW7.out)).cell 0
          have b1 : w7.cell? ⟨N, 1, none⟩ = some (.int .i64 v.i) := ((HBV.out w7 HW7.out)).cell 1
          have b2 : w7.cell? ⟨N, 2, none⟩ = some (.int .i64 v.s) := ((HBV.out w7 HW7.out)).cell 2
          have b3 : w7.cell? ⟨N, 3, none⟩ = some (.string v.t) := ((HBV.out w7 HW7.out)).cell 3
          have b4 : w7.cell? ⟨N, 4, none⟩ = some (.slice v.la v.ln v.lc) := ((HBV.out w7 HW7.out)).cell 4
          have b5 : w7.cell? ⟨N, 5, none⟩ = some (.slice v.fa v.fn v.fc) := ((HBV.out w7 HW7.out)).cell 5
          go_wp2_with fail
          refine (get_any v T S n Y4 m s4 L w7 (fit_one HEV.out hTs) (HV.out.same HO7.out) (HP4.out.same (HW45.out.trans (HA5.out.trans HW57.out))) hm (HS.out.same HO7.out).tab).mono ?_
          rintro e w8 ⟨old, rfl, hold8, ho⟩
          have HO8 := Lib.hid (HO7.out.trans ho)
          have HW8 := Lib.hid (HW7.out.trans ho)
          have HW58 := Lib.hid (HW57.out.trans ho)
          clear ho b0 b1 b2 b3 b4 b5
          rcases HOLD.out with h19 | ⟨O, hE0, hGO, hOs, hb1, hb2⟩
          · rw [h19]
            go_wp2_with fail
            go_ret
            exact ⟨rfl, HO8.out.alloc _⟩
          · rw [hE0]
            rw [hGO] at hold8
            have HOL := Lib.hid hold8.any
            have HBK1 := Lib.hid (fun (e : Int) (Y : VT) => hb1 (e := e) (Y := Y))
            have HBK2 := Lib.hid (fun (e : Int) (Y : VT) => hb2 (e := e) (Y := Y))
            clear hold8 hE0 hGO hb1 hb2
            go_upto_region 13 with fail
            obtain ⟨W8, HWW8⟩ : ∃ W8, Hid (W8 = w8.alloc (.cells #[.int .i64 old.k, .int .i64 old.i, .int .i64 old.s, .string old.t, .slice old.la old.ln old.lc, .slice old.fa old.fn old.fc] 25)) := ⟨_, Lib.hid rfl⟩
            rw [← HWW8.out]
            have HA8 : Hid (Only Nobody w8 W8) := Lib.hid (by rw [HWW8.out]; exact (Only.refl _ _).alloc _)
            have HBxold : Hid (∀ w', Only Nobody W8 w' → Blk w' w8.heap.size 25 #[.int .i64 old.k, .int .i64 old.i, .int .i64 old.s, .string old.t, .slice old.la old.ln old.lc, .slice old.fa old.fn old.fc]) := Lib.hid fun w' h => h.blk (by rw [HWW8.out]; exact Blk.new _ _ _) (fun x => x)
            have HQ8 := Lib.hid (HO8.out.trans HA8.out)
            have HRR := Lib.hid (Only.refl Nobody W8)
            have HL8 := Lib.hid (HOL.out.same HA8.out)
            have HW8' := Lib.hid (HW8.out.trans HA8.out)
            have HW58' := Lib.hid (HW58.out.trans HA8.out)
            have hOs2 : O.size ≤ 140737488351232 := by omega
            have b0 : W8.cell? ⟨N, 0, none⟩ = some (.int .i64 v.k) := ((HBV.out W8 HW8'.out)).cell 0
            have b1 : W8.cell? ⟨N, 1, none⟩ = some (.int .i64 v.i) := ((HBV.out W8 HW8'.out)).cell 1
            have b2 : W8.cell? ⟨N, 2, none⟩ = some (.int .i64 v.s) := ((HBV.out W8 HW8'.out)).cell 2
            have b3 : W8.cell? ⟨N, 3, none⟩ = some (.string v.t) := ((HBV.out W8 HW8'.out)).cell 3
            have b4 : W8.cell? ⟨N, 4, none⟩ = some (.slice v.la v.ln v.lc) := ((HBV.out W8 HW8'.out)).cell 4
            have b5 : W8.cell? ⟨N, 5, none⟩ = some (.slice v.fa v.fn v.fc) := ((HBV.out W8 HW8'.out)).cell 5
            have o0 : W8.cell? ⟨w8.heap.size, 0, none⟩ = some (.int .i64 old.k) := ((HBxold.out W8 HRR.out)).cell 0
            have o1 : W8.cell? ⟨w8.heap.size, 1, none⟩ = some (.int .i64 old.i) := ((HBxold.out W8 HRR.out)).cell 1
            have o2 : W8.cell? ⟨w8.heap.size, 2, none⟩ = some (.int .i64 old.s) := ((HBxold.out W8 HRR.out)).cell 2
            have o3 : W8.cell? ⟨w8.heap.size, 3, none⟩ = some (.string old.t) := ((HBxold.out W8 HRR.out)).cell 3
            have o4 : W8.cell? ⟨w8.heap.size, 4, none⟩ = some (.slice old.la old.ln old.lc) := ((HBxold.out W8 HRR.out)).cell 4
            have o5 : W8.cell? ⟨w8.heap.size, 5, none⟩ = some (.slice old.fa old.fn old.fc) := ((HBxold.out W8 HRR.out)).cell 5
            go_wp2_with fail
            refine (set_any v old T O Any_ (max n (n + 1)) Y4 m s4 L W8 hTs hOs2 hm hms4 (((HV.out.same HQ8.out).any).le (by omega)) ((HL8.out.any).le (by omega)) (HP4.out.same (HW45.out.trans (HA5.out.trans HW58'.out))) (HS.out.same HQ8.out).tab).mono ?_
            rintro e w9 ⟨e9, r9, T9, n9, rfl, hset, hsome, ho⟩
            obtain ⟨T9', h9⟩ := hsome HOK.out HEV.out
            obtain ⟨he9, _⟩ := HBK1.out _ _ h9
            subst he9
            obtain ⟨_, _, h9c, h9v⟩ := hset rfl
            obtain ⟨_, hT9⟩ := HBK1.out _ _ h9c
            rw [hT9] at h9v
            have HV9 := Lib.hid h9v.any
            have HO9 := Lib.hid (HQ8.out.trans ho)
            have HW9 := Lib.hid (HW8'.out.trans ho)
            have HW59 := Lib.hid (HW58'.out.trans ho)
            have HW89 := Lib.hid ho
            unfold retV
            clear hset hsome h9 h9c h9v hT9 ho b0 b1 b2 b3 b4 b5 o0 o1 o2 o3 o4 o5
            go_upto_region 14 with fail
            obtain ⟨W9, HWW9⟩ : ∃ W9, Hid (W9 = w9.alloc (.cells #[.int .i64 r9.k, .int .i64 r9.i, .int .i64 r9.s, .string r9.t, .slice r9.la r9.ln r9.lc, .slice r9.fa r9.fn r9.fc] 25)) := ⟨_, Lib.hid rfl⟩
            rw [← HWW9.out]
            have HA9 : Hid (Only Nobody w9 W9) := Lib.hid (by rw [HWW9.out]; exact (Only.refl _ _).alloc _)
            have HBxr9 : Hid (∀ w', Only Nobody W9 w' → Blk w' w9.heap.size 25 #[.int .i64 r9.k, .int .i64 r9.i, .int .i64 r9.s, .string r9.t, .slice r9.la r9.ln r9.lc, .slice r9.fa r9.fn r9.fc]) := Lib.hid fun w' h => h.blk (by rw [HWW9.out]; exact Blk.new _ _ _) (fun x => x)
            have HQ9 := Lib.hid (HO9.out.trans HA9.out)
            have HRR := Lib.hid (Only.refl Nobody W9)
            have HV9' := Lib.hid (HV9.out.same HA9.out)
            have HW9' := Lib.hid (HW9.out.trans HA9.out)
            have HW59' := Lib.hid (HW59.out.trans HA9.out)
            have HW89' := Lib.hid (HW89.out.trans HA9.out)
            have y0 : W9.cell? ⟨w5.heap.size, 0, none⟩ = some (.int .i64 y.k) := ((HBxy.out W9 HW59'.out)).cell 0
            have y1 : W9.cell? ⟨w5.heap.size, 1, none⟩ = some (.int .i64 y.i) := ((HBxy.out W9 HW59'.out)).cell 1
            have y2 : W9.cell? ⟨w5.heap.size, 2, none⟩ = some (.int .i64 y.s) := ((HBxy.out W9 HW59'.out)).cell 2
            have y3 : W9.cell? ⟨w5.heap.size, 3, none⟩ = some (.string y.t) := ((HBxy.out W9 HW59'.out)).cell 3
            have y4 : W9.cell? ⟨w5.heap.size, 4, none⟩ = some (.slice y.la y.ln y.lc) := ((HBxy.out W9 HW59'.out)).cell 4
            have y5 : W9.cell? ⟨w5.heap.size, 5, none⟩ = some (.slice y.fa y.fn y.fc) := ((HBxy.out W9 HW59'.out)).cell 5
            have o0 : W9.cell? ⟨w8.heap.size, 0, none⟩ = some (.int .i64 old.k) := ((HBxold.out W9 HW89'.out)).cell 0
            have o1 : W9.cell? ⟨w8.heap.size, 1, none⟩ = some (.int .i64 old.i) := ((HBxold.out W9 HW89'.out)).cell 1
            have o2 : W9.cell? ⟨w8.heap.size, 2, none⟩ = some (.int .i64 old.s) := ((HBxold.out W9 HW89'.out)).cell 2
            have o3 : W9.cell? ⟨w8.heap.size, 3, none⟩ = some (.string old.t) := ((HBxold.out W9 HW89'.out)).cell 3
            have o4 : W9.cell? ⟨w8.heap.size, 4, none⟩ = some (.slice old.la old.ln old.lc) := ((HBxold.out W9 HW89'.out)).cell 4
            have o5 : W9.cell? ⟨w8.heap.size, 5, none⟩ = some (.slice old.fa old.fn old.fc) := ((HBxold.out W9 HW89'.out)).cell 5
            go_wp2_with fail
            refine (set_any y old T' O Any_ (max n5 (n + 1)) Y4 m s4 L W9 hT's hOs2 hm hms4 ((HY5.out.same HW59'.out).le (by omega)) (((HL8.out.same HW89'.out).any).le (by omega)) (HP4.out.same (HW45.out.trans (HA5.out.trans HW59'.out))) (HS.out.same HQ9.out).tab).mono ?_
            rintro e w10 ⟨e10, r10, T10, n10, rfl, hset, hsome, ho⟩
            obtain ⟨T10', h10⟩ := hsome HOK.out HEV.out
            obtain ⟨he10, _⟩ := HBK2.out _ _ h10
            subst he10
            obtain ⟨_, _, h10c, h10v⟩ := hset rfl
            obtain ⟨_, hT10⟩ := HBK2.out _ _ h10c
            rw [hT10] at h10v
            have HV10 := Lib.hid h10v.any
            have HO10 := Lib.hid (HQ9.out.trans ho)
            have HW10 := Lib.hid (HW9'.out.trans ho)
            have HW910 := Lib.hid ho
            unfold retV
            clear hset hsome h10 h10c h10v hT10 ho y0 y1 y2 y3 y4 y5 o0 o1 o2 o3 o4 o5
            go_upto_region 15 with fail
            obtain ⟨W10, HWW10⟩ : ∃ W10, Hid (W10 = w10.alloc (.cells #[.int .i64 r10.k, .int .i64 r10.i, .int .i64 r10.s, .string r10.t, .slice r10.la r10.ln r10.lc, .slice r10.fa r10.fn r10.fc] 25)) := ⟨_, Lib.hid rfl⟩
            rw [← HWW10.out]
            have HA10 : Hid (Only Nobody w10 W10) := Lib.hid (by rw [HWW10.out]; exact (Only.refl _ _).alloc _)
            have HBxr10 : Hid (∀ w', Only Nobody W10 w' → Blk w' w10.heap.size 25 #[.int .i64 r10.k, .int .i64 r10.i, .int .i64 r10.s, .string r10.t, .slice r10.la r10.ln r10.lc, .slice r10.fa r10.fn r10.fc]) := Lib.hid fun w' h => h.blk (by rw [HWW10.out]; exact Blk.new _ _ _) (fun x => x)
            have HQ10 := Lib.hid (HO10.out.trans HA10.out)
            have HRR := Lib.hid (Only.refl Nobody W10)
            have HW10' := Lib.hid (HW10.out.trans HA10.out)
            have HU10 := Lib.hid (HV10.out.same HA10.out)
            have HW910' := Lib.hid (HW910.out.trans HA10.out)
            have p0 : W10.cell? ⟨w9.heap.size, 0, none⟩ = some (.int .i64 r9.k) := ((HBxr9.out W10 HW910'.out)).cell 0
            have p1 : W10.cell? ⟨w9.heap.size, 1, none⟩ = some (.int .i64 r9.i) := ((HBxr9.out W10 HW910'.out)).cell 1
            have p2 : W10.cell? ⟨w9.heap.size, 2, none⟩ = some (.int .i64 r9.s) := ((HBxr9.out W10 HW910'.out)).cell 2
            have p3 : W10.cell? ⟨w9.heap.size, 3, none⟩ = some (.string r9.t) := ((HBxr9.out W10 HW910'.out)).cell 3
            have p4 : W10.cell? ⟨w9.heap.size, 4, none⟩ = some (.slice r9.la r9.ln r9.lc) := ((HBxr9.out W10 HW910'.out)).cell 4
            have p5 : W10.cell? ⟨w9.heap.size, 5, none⟩ = some (.slice r9.fa r9.fn r9.fc) := ((HBxr9.out W10 HW910'.out)).cell 5
            have b0 : W10.cell? ⟨N, 0, none⟩ = some (.int .i64 v.k) := ((HBV.out W10 HW10'.out)).cell 0
            have b1 : W10.cell? ⟨N, 1, none⟩ = some (.int .i64 v.i) := ((HBV.out W10 HW10'.out)).cell 1
            have b2 : W10.cell? ⟨N, 2, none⟩ = some (.int .i64 v.s) := ((HBV.out W10 HW10'.out)).cell 2
            have b3 : W10.cell? ⟨N, 3, none⟩ = some (.string v.t) := ((HBV.out W10 HW10'.out)).cell 3
            have b4 : W10.cell? ⟨N, 4, none⟩ = some (.slice v.la v.ln v.lc) := ((HBV.out W10 HW10'.out)).cell 4
            have b5 : W10.cell? ⟨N, 5, none⟩ = some (.slice v.fa v.fn v.fc) := ((HBV.out W10 HW10'.out)).cell 5
            go_wp2_with fail
            refine (same_eq (max n9 n) r9 v T Any_ S W10 (by omega) ((HV9'.out.same HW910'.out).le (by omega)) ((HV.out.same HQ10.out).le (by omega))).mono ?_
            rintro e w11 ⟨rfl, ho⟩
            have HW1011 := Lib.hid ho
            have HO11 := Lib.hid (HQ10.out.trans ho)
            have HW11 := Lib.hid (HW10'.out.trans ho)
            clear ho p0 p1 p2 p3 p4 p5 b0 b1 b2 b3 b4 b5
            have u0 : w11.cell? ⟨w10.heap.size, 0, none⟩ = some (.int .i64 r10.k) := ((HBxr10.out w11 HW1011.out)).cell 0
            have u1 : w11.cell? ⟨w10.heap.size, 1, none⟩ = some (.int .i64 r10.i) := ((HBxr10.out w11 HW1011.out)).cell 1
            have u2 : w11.cell? ⟨w10.heap.size, 2, none⟩ = some (.int .i64 r10.s) := ((HBxr10.out w11 HW1011.out)).cell 2
            have u3 : w11.cell? ⟨w10.heap.size, 3, none⟩ = some (.string r10.t) := ((HBxr10.out w11 HW1011.out)).cell 3
            have u4 : w11.cell? ⟨w10.heap.size, 4, none⟩ = some (.slice r10.la r10.ln r10.lc) := ((HBxr10.out w11 HW1011.out)).cell 4
            have u5 : w11.cell? ⟨w10.heap.size, 5, none⟩ = some (.slice r10.fa r10.fn r10.fc) := ((HBxr10.out w11 HW1011.out)).cell 5
            have b0 : w11.cell? ⟨N, 0, none⟩ = some (.int .i64 v.k) := ((HBV.out w11 HW11.out)).cell 0
            have b1 : w11.cell? ⟨N, 1, none⟩ = some (.int .i64 v.i) := ((HBV.out w11 HW11.out)).cell 1
            have b2 : w11.cell? ⟨N, 2, none⟩ = some (.int .i64 v.s) := ((HBV.out w11 HW11.out)).cell 2
            have b3 : w11.cell? ⟨N, 3, none⟩ = some (.string v.t) := ((HBV.out w11 HW11.out)).cell 3
            have b4 : w11.cell? ⟨N, 4, none⟩ = some (.slice v.la v.ln v.lc) := ((HBV.out w11 HW11.out)).cell 4
            have b5 : w11.cell? ⟨N, 5, none⟩ = some (.slice v.fa v.fn v.fc) := ((HBV.out w11 HW11.out)).cell 5
            go_wp2_with fail
            refine (same_eq (max n10 n) r10 v T Any_ S w11 (by omega) ((HU10.out.same HW1011.out).le (by omega)) ((HV.out.same HO11.out).le (by omega))).mono ?_
            rintro e w12 ⟨rfl, ho⟩
            have HO12 := Lib.hid (HO11.out.trans ho)
            clear ho
            go_wp2_with fail
            go_ret
            exact ⟨rfl, HO12.out⟩
        · have hne : (er != 0) = true := by simpa using her
          have hnf : (er == 0) = false := by simpa using her
          clear her
          go_wp2_with fail
          go_ret
          exact ⟨rfl, HO5.out.alloc _⟩
/-- The law as the claim wants it. -/
theorem lawRetW (v : VC) (T : VT) (n : Nat) {w : World} (hsz : T.size ≤ 140737488351232) (h : VAt w (fun b => b < w.heap.size) n v T) (A : Option Addr) (m c : Nat) (L : List Pt) (ha : Pts w A m L) (x : VC) (X : VT) (nx : Nat) (hszX : X.size ≤ 140737488351232) (hx : VAt w (fun b => b < w.heap.size) nx x X) (hs : Std w) : Calls Tryd.prog 3 #[.agg #[.int .i64 v.k, .int .i64 v.i, .int .i64 v.s, .string v.t, .slice v.la v.ln v.lc, .slice v.fa v.fn v.fc], .slice A m c, .agg #[.int .i64 x.k, .int .i64 x.i, .int .i64 x.s, .string x.t, .slice x.la x.ln x.lc, .slice x.fa x.fn x.fc]] w fun e w' => e = .returned (.bool true) ∧ Only Nobody w w' :=
  lawRet v x T X _ n nx A m c L hsz hszX h hx ha hs
end Go.Proofs.YtdccckoelnnnoaaDoor
