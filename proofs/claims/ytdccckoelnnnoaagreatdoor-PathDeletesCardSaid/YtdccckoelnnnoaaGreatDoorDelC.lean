/- path.Delete. -/
import Derived.Test.YtdccckoelnnnoaaGreatDoorChd
import Derived.Test.YtdccckoelnnnoaaGreatDoorVaC
namespace Go.Proofs.YtdccckoelnnnoaaGreatDoor
open Go.RowKit
attribute [local go_sem ↓] Go.wp_at_zero Go.wp_at_succ

theorem takeL_size (l : List VT) (i : Nat) : sizeL (l.take i ++ l.drop (i + 1)) ≤ sizeL l := by
  refine sizeL_le ?_ ?_
  · have := sizeL_len l
    rw [List.length_append, List.length_take, List.length_drop]
    omega
  · intro x hx
    rcases List.mem_append.1 hx with hx | hx
    · exact sizeL_in (List.mem_of_mem_take hx)
    · exact sizeL_in (List.mem_of_mem_drop hx)
theorem takeF_size (l : List (ByteArray × VT)) (i : Nat) : sizeF (l.take i ++ l.drop (i + 1)) ≤ sizeF l := by
  refine sizeF_le ?_ ?_
  · have := sizeF_len l
    rw [List.length_append, List.length_take, List.length_drop]
    omega
  · intro x hx
    rcases List.mem_append.1 hx with hx | hx
    · exact sizeF_in (List.mem_of_mem_take hx)
    · exact sizeF_in (List.mem_of_mem_drop hx)
theorem del_size (T : VT) (p : Pt) : (delT T p).size ≤ T.size := by
  unfold delT
  rw [VT.size_eq T]
  split
  · have := takeL_size T.l p.idx.toNat
    simp only [VT.size]
    omega
  · have := takeF_size T.f ((fieldL T.f p.name).getD 0)
    simp only [VT.size]
    omega
theorem dlT_size : ∀ (L : List Pt) (T : VT), (dlT L T).size ≤ T.size
  | [], T => by simp [dlT]
  | p :: l, T => by
    unfold dlT
    cases hL : leadL p T with
    | nil => exact Nat.le_refl _
    | cons U rest =>
      simp only []
      split
      · exact del_size T p
      · have h1 := repl_size T p (dlT l U)
        have h2 := dlT_size l U
        have h3 := lead_size1 hL
        omega
/-- The last part is a case. -/
def caseB (L : List Pt) : Bool := match L.getLast? with
  | some p => p.kind == 4
  | none => false
/-- Delete's error. -/
def delE (L : List Pt) (T : VT) : Int := if okL L = true ∧ everyL L = false ∧ caseB L = false then dlE L T else 3
def DelPost (L : List Pt) (T : VT) (w : World) (e : Ending) (w' : World) : Prop := ∃ v' n', e = retV v' (delE L T) ∧ VAt w' (fun b => w.heap.size ≤ b) n' v' (if delE L T = 0 then dlT L T else VT.zero) ∧ Only Nobody w w'
theorem del_bad {L : List Pt} {T : VT} {w w' : World} (h : ¬ (okL L = true ∧ everyL L = false ∧ caseB L = false)) (ho : Only Nobody w w') : DelPost L T w (retV zeroC 3) w' := by
  have e : delE L T = 3 := by unfold delE; rw [if_neg h]
  refine ⟨zeroC, 1, by rw [e], ?_, ho⟩
  rw [e, if_neg (by omega)]
  exact zero_at _ _ _

set_option maxRecDepth 100000 in
set_option maxHeartbeats 32000000 in
theorem delete_any (v : VC) (T : VT) (S : Nat → Prop) (n : Nat) (A : Option Addr) (m c : Nat) (L : List Pt) (w : World) (hsz : T.size ≤ 140737488351232) (hm : m ≤ 1000) (hmc : m ≤ c) (h : VAt w S n v T) (hp : Pts w A m L) (ht : CalTab w) : Calls Tryz.prog 6 #[.agg #[.int .i64 v.k, .int .i64 v.i, .int .i64 v.s, .string v.t, .slice v.la v.ln v.lc, .slice v.fa v.fn v.fc], .slice A m c] w (DelPost L T w) := by
  have HV := Lib.hid h
  have HP := Lib.hid hp
  have HT := Lib.hid ht
  have hLm : L.length = m := hp.len
  clear h hp ht
  obtain ⟨N, HN⟩ : ∃ N, Hid (w.heap.size = N) := ⟨_, Lib.hid rfl⟩
  obtain ⟨W, HW⟩ : ∃ W, Hid (W = ((w.alloc (.cells #[.int .i64 v.k, .int .i64 v.i, .int .i64 v.s, .string v.t, .slice v.la v.ln v.lc, .slice v.fa v.fn v.fc] 25)).alloc (.cells #[.int .i64 0, .int .i64 0, .int .i64 0, .string ⟨#[]⟩, .slice none 0 0, .slice none 0 0] 25))) := ⟨_, Lib.hid rfl⟩
  have HOA : Hid (Only Nobody w W) := Lib.hid (by rw [HW.out]; exact ((Only.refl _ _).alloc _).alloc _)
  have HB0 : Hid (Blk W (N) 25 #[.int .i64 v.k, .int .i64 v.i, .int .i64 v.s, .string v.t, .slice v.la v.ln v.lc, .slice v.fa v.fn v.fc]) := Lib.hid (by
    have := (Blk.new w 25 #[.int .i64 v.k, .int .i64 v.i, .int .i64 v.s, .string v.t, .slice v.la v.ln v.lc, .slice v.fa v.fn v.fc])
    rw [HW.out, ← HN.out]
    simpa using (this.alloc (.cells #[.int .i64 0, .int .i64 0, .int .i64 0, .string ⟨#[]⟩, .slice none 0 0, .slice none 0 0] 25)))
  have HB1 : Hid (Blk W (N + 1) 25 #[.int .i64 0, .int .i64 0, .int .i64 0, .string ⟨#[]⟩, .slice none 0 0, .slice none 0 0]) := Lib.hid (by
    have := (Blk.new (w.alloc (.cells #[.int .i64 v.k, .int .i64 v.i, .int .i64 v.s, .string v.t, .slice v.la v.ln v.lc, .slice v.fa v.fn v.fc] 25)) 25 #[.int .i64 0, .int .i64 0, .int .i64 0, .string ⟨#[]⟩, .slice none 0 0, .slice none 0 0])
    rw [HW.out, ← HN.out]
    simpa using this)
  have HWS : Hid (W.heap.size = N + 2) := Lib.hid (by rw [HW.out, ← HN.out]; simp)
  go_enter Tryz.func6, Tryz.ntmps6
  go_upto_region 1 with fail
  rw [← HW.out, HN.out]
  have HCK := Lib.hid (check_any A m c L W (HP.out.same HOA.out) (HT.out.same HOA.out))
  have HR := Lib.hid (Only.refl Nobody W)
  go_wp2_with fail
  refine HCK.out.mono ?_
  rintro e w1 ⟨rfl, ho1⟩
  have HW1 := Lib.hid ho1
  have HO1 := Lib.hid (HOA.out.trans ho1)
  have HEV := Lib.hid (every_any A m c L hm w1 (HP.out.same HO1.out))
  clear ho1
  by_cases hok : okL L = true
  · rw [chkE_ok hok]
    have HOK := Lib.hid hok
    clear hok
    go_wp2_with fail
    refine HEV.out.mono ?_
    rintro e w2 ⟨rfl, ho2⟩
    have H2 := Lib.hid (HW1.out.trans ho2)
    have HOw2 := Lib.hid (HO1.out.trans ho2)
    clear ho2
    cases hev : everyL L with
    | true =>
      have HPOST : Hid (∀ wE, Only (fun b => b = N + 1) w2 wE → DelPost L T w (retV zeroC 3) wE) := Lib.hid fun wE hE => del_bad (fun h => by rw [hev] at h; exact absurd h.2.1 (by simp)) (HOw2.out.trans_more (hE.mono (fun b e => .inr (by rw [HN.out]; omega))))
      have r0 : w2.cell? ⟨N + 1, 0, none⟩ = some (.int .i64 0) := ((H2.out.blk HB1.out (fun x => x))).cell 0
      have rf0 : w2.frozen? ⟨N + 1, 0, none⟩ = false := ((H2.out.blk HB1.out (fun x => x))).frozen 0
      have r1 : w2.cell? ⟨N + 1, 1, none⟩ = some (.int .i64 0) := ((H2.out.blk HB1.out (fun x => x))).cell 1
      have rf1 : w2.frozen? ⟨N + 1, 1, none⟩ = false := ((H2.out.blk HB1.out (fun x => x))).frozen 1
      have r2 : w2.cell? ⟨N + 1, 2, none⟩ = some (.int .i64 0) := ((H2.out.blk HB1.out (fun x => x))).cell 2
      have rf2 : w2.frozen? ⟨N + 1, 2, none⟩ = false := ((H2.out.blk HB1.out (fun x => x))).frozen 2
      have r3 : w2.cell? ⟨N + 1, 3, none⟩ = some (.string ⟨#[]⟩) := ((H2.out.blk HB1.out (fun x => x))).cell 3
      have rf3 : w2.frozen? ⟨N + 1, 3, none⟩ = false := ((H2.out.blk HB1.out (fun x => x))).frozen 3
      have r4 : w2.cell? ⟨N + 1, 4, none⟩ = some (.slice none 0 0) := ((H2.out.blk HB1.out (fun x => x))).cell 4
      have rf4 : w2.frozen? ⟨N + 1, 4, none⟩ = false := ((H2.out.blk HB1.out (fun x => x))).frozen 4
      have r5 : w2.cell? ⟨N + 1, 5, none⟩ = some (.slice none 0 0) := ((H2.out.blk HB1.out (fun x => x))).cell 5
      have rf5 : w2.frozen? ⟨N + 1, 5, none⟩ = false := ((H2.out.blk HB1.out (fun x => x))).frozen 5
      unfold retV zeroC at HPOST
      go_wp2_with fail
      exact bodyPost_ret (v := .tuple #[.agg #[.int .i64 0, .int .i64 0, .int .i64 0, .string ⟨#[]⟩, .slice none 0 0, .slice none 0 0], .int .i64 3]) (by simp [results, Tryz.results6, go_sem, r0, r1, r2, r3, r4, r5]) rfl (HPOST.out _ (by repeat (first | with_reducible exact Only.refl _ _ | with_reducible refine Only.drew ?_ | with_reducible refine Only.alloc ?_ _ | with_reducible refine Only.setCell ?_ (Or.inl ?_) _ | exact rfl | exact Or.inl rfl | exact Or.inr (Or.inl rfl) | exact Or.inr (Or.inr rfl) | exact Or.inr rfl)))
    | false =>
      have hev := Lib.hid hev
      obtain ⟨k1, k2, hall, k3, k4⟩ := okL_parts HOK.out
      have hne : L ≠ [] := by intro e; rw [e] at k1; simp at k1
      have hLle : L.length ≤ 16 := k2
      clear k1 k2 k3 k4
      obtain ⟨mm, rfl⟩ : ∃ mm, m = mm + 1 := ⟨m - 1, by have := List.length_pos_iff.2 hne; omega⟩
      obtain ⟨ad, rfl⟩ := HP.out.some_ (by omega)
      obtain ⟨q, hq⟩ : ∃ q, Hid (L[mm]? = some q) := ⟨_, Lib.hid (List.getElem?_eq_getElem (by omega))⟩
      have hlast : Hid (L.getLast? = some q) := Lib.hid (by rw [List.getLast?_eq_getElem?, hLm]; exact hq.out)
      have HCB : Hid (caseB L = (q.kind == 4)) := Lib.hid (by unfold caseB; rw [hlast.out])
      obtain ⟨z0, z1, z2⟩ := (HP.out.same HOw2.out).at_ hq.out
      have hmI : ((mm : Int) + 1 - 1) = (mm : Int) := by omega
      have hmN : ((mm : Int)).toNat = mm := by omega
      have hmlt : (mm : Int) < (mm : Int) + 1 := by omega
      have hmlt2 : mm < mm + 1 := by omega
      clear z1 z2
      by_cases hq4 : q.kind = 4
      · have hq4B : (q.kind == 4) = true := by simpa using hq4
        have HPOST : Hid (∀ wE, Only (fun b => b = N + 1) w2 wE → DelPost L T w (retV zeroC 3) wE) := Lib.hid fun wE hE => del_bad (fun h => by have := h.2.2; rw [HCB.out, hq4B] at this; exact absurd this (by simp)) (HOw2.out.trans_more (hE.mono (fun b e => .inr (by rw [HN.out]; omega))))
        have r0 : w2.cell? ⟨N + 1, 0, none⟩ = some (.int .i64 0) := ((H2.out.blk HB1.out (fun x => x))).cell 0
        have rf0 : w2.frozen? ⟨N + 1, 0, none⟩ = false := ((H2.out.blk HB1.out (fun x => x))).frozen 0
        have r1 : w2.cell? ⟨N + 1, 1, none⟩ = some (.int .i64 0) := ((H2.out.blk HB1.out (fun x => x))).cell 1
        have rf1 : w2.frozen? ⟨N + 1, 1, none⟩ = false := ((H2.out.blk HB1.out (fun x => x))).frozen 1
        have r2 : w2.cell? ⟨N + 1, 2, none⟩ = some (.int .i64 0) := ((H2.out.blk HB1.out (fun x => x))).cell 2
        have rf2 : w2.frozen? ⟨N + 1, 2, none⟩ = false := ((H2.out.blk HB1.out (fun x => x))).frozen 2
        have r3 : w2.cell? ⟨N + 1, 3, none⟩ = some (.string ⟨#[]⟩) := ((H2.out.blk HB1.out (fun x => x))).cell 3
        have rf3 : w2.frozen? ⟨N + 1, 3, none⟩ = false := ((H2.out.blk HB1.out (fun x => x))).frozen 3
        have r4 : w2.cell? ⟨N + 1, 4, none⟩ = some (.slice none 0 0) := ((H2.out.blk HB1.out (fun x => x))).cell 4
        have rf4 : w2.frozen? ⟨N + 1, 4, none⟩ = false := ((H2.out.blk HB1.out (fun x => x))).frozen 4
        have r5 : w2.cell? ⟨N + 1, 5, none⟩ = some (.slice none 0 0) := ((H2.out.blk HB1.out (fun x => x))).cell 5
        have rf5 : w2.frozen? ⟨N + 1, 5, none⟩ = false := ((H2.out.blk HB1.out (fun x => x))).frozen 5
        unfold retV zeroC at HPOST
        go_wp2_with fail
        exact bodyPost_ret (v := .tuple #[.agg #[.int .i64 0, .int .i64 0, .int .i64 0, .string ⟨#[]⟩, .slice none 0 0, .slice none 0 0], .int .i64 3]) (by simp [results, Tryz.results6, go_sem, r0, r1, r2, r3, r4, r5]) rfl (HPOST.out _ (by repeat (first | with_reducible exact Only.refl _ _ | with_reducible refine Only.drew ?_ | with_reducible refine Only.alloc ?_ _ | with_reducible refine Only.setCell ?_ (Or.inl ?_) _ | exact rfl | exact Or.inl rfl | exact Or.inr (Or.inl rfl) | exact Or.inr (Or.inr rfl) | exact Or.inr rfl)))
      · have hq4B : (q.kind == 4) = false := by simpa using hq4
        have hDE : Hid (∀ T, delE L T = dlE L T) := Lib.hid fun T => by unfold delE; rw [if_pos ⟨HOK.out, hev.out, by rw [HCB.out]; exact hq4B⟩]
        have hst : (store ⟨w2.heap.size, 0, none⟩ (.func (.func 21) #[] #[])).run Tryz.prog (w2.alloc (.cells #[.nilFunc] 51)) = .ok () ((w2.alloc (.cells #[.nilFunc] 51)).setCell ⟨w2.heap.size, 0, none⟩ (.func (.func 21) #[] #[])) := by
          rw [run_store Tryz.prog _ _ _ _ rfl, (Blk.new w2 51 #[.nilFunc]).cell 0]
          simp [(Blk.new w2 51 #[.nilFunc]).frozen 0]
        go_upto_region 4 with fail
        obtain ⟨W2, HW2⟩ : ∃ W2, Hid (W2 = w2.alloc (.cells #[(.func (.func 21) #[] #[])] 51)) := ⟨_, Lib.hid rfl⟩
        rw [← HW2.out]
        have hN2 : N + 2 ≤ w2.heap.size := by rw [← HWS.out]; exact H2.out.size
        have HO2 : Hid (Only Nobody w W2) := Lib.hid (by rw [HW2.out]; exact HOw2.out.alloc _)
        have HWW : Hid (Only Nobody W W2) := Lib.hid (by rw [HW2.out]; exact H2.out.alloc _)
        have HC0 : Hid (∀ w', Only Nobody W2 w' → Blk w' N 25 #[.int .i64 v.k, .int .i64 v.i, .int .i64 v.s, .string v.t, .slice v.la v.ln v.lc, .slice v.fa v.fn v.fc]) := Lib.hid fun w' h => (HWW.out.trans h).blk HB0.out (fun x => x)
        have HC1 : Hid (∀ w', Only Nobody W2 w' → Blk w' (N + 1) 25 #[.int .i64 0, .int .i64 0, .int .i64 0, .string ⟨#[]⟩, .slice none 0 0, .slice none 0 0]) := Lib.hid fun w' h => (HWW.out.trans h).blk HB1.out (fun x => x)
        have HBA : Hid (∀ w', Only Nobody W2 w' → Blk w' w2.heap.size 51 #[(.func (.func 21) #[] #[])]) := Lib.hid fun w' h => h.blk (by rw [HW2.out]; exact Blk.new _ _ _) (fun x => x)
        have HS2 : Hid (N + 2 ≤ W2.heap.size) := Lib.hid (Nat.le_trans hN2 (by rw [HW2.out]; simp))
        have HOX := Lib.hid (Only.refl Nobody W2)
        have hba := (HBA.out W2 HOX.out).cell 0
        have b0 : W2.cell? ⟨N, 0, none⟩ = some (.int .i64 v.k) := ((HC0.out W2 HOX.out)).cell 0
        have b1 : W2.cell? ⟨N, 1, none⟩ = some (.int .i64 v.i) := ((HC0.out W2 HOX.out)).cell 1
        have b2 : W2.cell? ⟨N, 2, none⟩ = some (.int .i64 v.s) := ((HC0.out W2 HOX.out)).cell 2
        have b3 : W2.cell? ⟨N, 3, none⟩ = some (.string v.t) := ((HC0.out W2 HOX.out)).cell 3
        have b4 : W2.cell? ⟨N, 4, none⟩ = some (.slice v.la v.ln v.lc) := ((HC0.out W2 HOX.out)).cell 4
        have b5 : W2.cell? ⟨N, 5, none⟩ = some (.slice v.fa v.fn v.fc) := ((HC0.out W2 HOX.out)).cell 5
        clear hst z0
        go_wp2_with fail
        refine (dchange_any L T hne hall hev.out (fun p hp => by rw [hlast.out] at hp; injection hp with hp; rw [← hp]; exact hq4) v (fun b => S b ∧ b < N) n (some ad) (mm + 1) c w2.heap.size _ (by omega) hm hmc (vat_in HV.out HN.out HO2.out) (HP.out.same HO2.out) (HBA.out _ HOX.out)).mono ?_
        rintro e w4 ⟨n', ⟨vy, rfl, hzy, hvy⟩, ho4⟩
        obtain ⟨er, HER⟩ : ∃ er, Hid (dlE L T = er) := ⟨_, Lib.hid rfl⟩
        rw [HER.out] at hzy hvy ⊢
        have HOc := Lib.hid (HO2.out.trans ho4)
        have H4 := Lib.hid ho4
        obtain ⟨nn, Z, hvz, hZ, hsz6⟩ : ∃ nn Z, VAt w4 Any_ nn vy Z ∧ Z = (if er = 0 then dlT L T else VT.zero) ∧ Z.size ≤ 140737488351232 := by
          by_cases h0 : er = 0
          · refine ⟨n', dlT L T, (hvy h0).any, by rw [if_pos h0], ?_⟩
            have h1 := dlT_size L T
            omega
          · refine ⟨1, VT.zero, by rw [hzy h0]; exact zero_at _ _ _, by rw [if_neg h0], ?_⟩
            simp [VT.zero, VT.size, sizeL, sizeF]
        have HVZ := Lib.hid hvz
        have HZZ := Lib.hid hZ
        clear hvz hZ hvy hzy ho4 b0 b1 b2 b3 b4 b5 hba
        unfold retV
        go_upto_region 5 with fail
        obtain ⟨W4, HW4⟩ : ∃ W4, Hid (W4 = w4.alloc (.cells #[.int .i64 vy.k, .int .i64 vy.i, .int .i64 vy.s, .string vy.t, .slice vy.la vy.ln vy.lc, .slice vy.fa vy.fn vy.fc] 25)) := ⟨_, Lib.hid rfl⟩
        rw [← HW4.out]
        have H24 : Hid (Only Nobody W2 W4) := Lib.hid (by rw [HW4.out]; exact H4.out.alloc _)
        have HO4 : Hid (Only Nobody w4 W4) := Lib.hid (by rw [HW4.out]; exact (Only.refl _ _).alloc _)
        have hby : Blk W4 w4.heap.size 25 #[.int .i64 vy.k, .int .i64 vy.i, .int .i64 vy.s, .string vy.t, .slice vy.la vy.ln vy.lc, .slice vy.fa vy.fn vy.fc] := by rw [HW4.out]; exact Blk.new _ _ _
        have y0 : W4.cell? ⟨w4.heap.size, 0, none⟩ = some (.int .i64 vy.k) := (hby).cell 0
        have y1 : W4.cell? ⟨w4.heap.size, 1, none⟩ = some (.int .i64 vy.i) := (hby).cell 1
        have y2 : W4.cell? ⟨w4.heap.size, 2, none⟩ = some (.int .i64 vy.s) := (hby).cell 2
        have y3 : W4.cell? ⟨w4.heap.size, 3, none⟩ = some (.string vy.t) := (hby).cell 3
        have y4 : W4.cell? ⟨w4.heap.size, 4, none⟩ = some (.slice vy.la vy.ln vy.lc) := (hby).cell 4
        have y5 : W4.cell? ⟨w4.heap.size, 5, none⟩ = some (.slice vy.fa vy.fn vy.fc) := (hby).cell 5
        clear hby
        go_wp2_with fail
        refine (clone_any nn vy Z Any_ W4 hsz6 (HVZ.out.same HO4.out)).mono ?_
        rintro e w6 ⟨v6, rfl, hv6, ho6⟩
        have h46 : N + 2 ≤ W4.heap.size := Nat.le_trans HS2.out H24.out.size
        have HPOST : Hid (∀ wE, Only (fun b => b = N + 1) w6 wE → DelPost L T w (retV v6 er) wE) := Lib.hid fun wE hE => ⟨v6, nn, by rw [hDE.out, HER.out], by
          rw [hDE.out, HER.out, ← HZZ.out]
          exact (hv6.keep hE (fun b hb e => by have h7 : W4.heap.size ≤ b := hb; omega)).mono (fun b _ hb => by have h7 : W4.heap.size ≤ b := hb; rw [HN.out]; omega), ((HOc.out.trans HO4.out).trans ho6).trans_more (hE.mono (fun b e => .inr (by rw [HN.out]; omega)))⟩
        have H26 := Lib.hid (H24.out.trans ho6)
        clear hv6 ho6 y0 y1 y2 y3 y4 y5
        have r0 : w6.cell? ⟨N + 1, 0, none⟩ = some (.int .i64 0) := ((HC1.out w6 H26.out)).cell 0
        have rf0 : w6.frozen? ⟨N + 1, 0, none⟩ = false := ((HC1.out w6 H26.out)).frozen 0
        have r1 : w6.cell? ⟨N + 1, 1, none⟩ = some (.int .i64 0) := ((HC1.out w6 H26.out)).cell 1
        have rf1 : w6.frozen? ⟨N + 1, 1, none⟩ = false := ((HC1.out w6 H26.out)).frozen 1
        have r2 : w6.cell? ⟨N + 1, 2, none⟩ = some (.int .i64 0) := ((HC1.out w6 H26.out)).cell 2
        have rf2 : w6.frozen? ⟨N + 1, 2, none⟩ = false := ((HC1.out w6 H26.out)).frozen 2
        have r3 : w6.cell? ⟨N + 1, 3, none⟩ = some (.string ⟨#[]⟩) := ((HC1.out w6 H26.out)).cell 3
        have rf3 : w6.frozen? ⟨N + 1, 3, none⟩ = false := ((HC1.out w6 H26.out)).frozen 3
        have r4 : w6.cell? ⟨N + 1, 4, none⟩ = some (.slice none 0 0) := ((HC1.out w6 H26.out)).cell 4
        have rf4 : w6.frozen? ⟨N + 1, 4, none⟩ = false := ((HC1.out w6 H26.out)).frozen 4
        have r5 : w6.cell? ⟨N + 1, 5, none⟩ = some (.slice none 0 0) := ((HC1.out w6 H26.out)).cell 5
        have rf5 : w6.frozen? ⟨N + 1, 5, none⟩ = false := ((HC1.out w6 H26.out)).frozen 5
        unfold retV at HPOST
        go_wp2_with fail
        exact bodyPost_ret (v := .tuple #[.agg #[.int .i64 v6.k, .int .i64 v6.i, .int .i64 v6.s, .string v6.t, .slice v6.la v6.ln v6.lc, .slice v6.fa v6.fn v6.fc], .int .i64 er]) (by simp [results, Tryz.results6, go_sem, r0, r1, r2, r3, r4, r5]) rfl (HPOST.out _ (by repeat (first | with_reducible exact Only.refl _ _ | with_reducible refine Only.drew ?_ | with_reducible refine Only.alloc ?_ _ | with_reducible refine Only.setCell ?_ (Or.inl ?_) _ | exact rfl | exact Or.inl rfl | exact Or.inr (Or.inl rfl) | exact Or.inr (Or.inr rfl) | exact Or.inr rfl)))
  · rw [chkE_no hok]
    have HPOST : Hid (∀ wE, Only (fun b => b = N + 1) w1 wE → DelPost L T w (retV zeroC 3) wE) := Lib.hid fun wE hE => del_bad (fun h => hok h.1) (HO1.out.trans_more (hE.mono (fun b e => .inr (by rw [HN.out]; omega))))
    have r0 : w1.cell? ⟨N + 1, 0, none⟩ = some (.int .i64 0) := ((HW1.out.blk HB1.out (fun x => x))).cell 0
    have rf0 : w1.frozen? ⟨N + 1, 0, none⟩ = false := ((HW1.out.blk HB1.out (fun x => x))).frozen 0
    have r1 : w1.cell? ⟨N + 1, 1, none⟩ = some (.int .i64 0) := ((HW1.out.blk HB1.out (fun x => x))).cell 1
    have rf1 : w1.frozen? ⟨N + 1, 1, none⟩ = false := ((HW1.out.blk HB1.out (fun x => x))).frozen 1
    have r2 : w1.cell? ⟨N + 1, 2, none⟩ = some (.int .i64 0) := ((HW1.out.blk HB1.out (fun x => x))).cell 2
    have rf2 : w1.frozen? ⟨N + 1, 2, none⟩ = false := ((HW1.out.blk HB1.out (fun x => x))).frozen 2
    have r3 : w1.cell? ⟨N + 1, 3, none⟩ = some (.string ⟨#[]⟩) := ((HW1.out.blk HB1.out (fun x => x))).cell 3
    have rf3 : w1.frozen? ⟨N + 1, 3, none⟩ = false := ((HW1.out.blk HB1.out (fun x => x))).frozen 3
    have r4 : w1.cell? ⟨N + 1, 4, none⟩ = some (.slice none 0 0) := ((HW1.out.blk HB1.out (fun x => x))).cell 4
    have rf4 : w1.frozen? ⟨N + 1, 4, none⟩ = false := ((HW1.out.blk HB1.out (fun x => x))).frozen 4
    have r5 : w1.cell? ⟨N + 1, 5, none⟩ = some (.slice none 0 0) := ((HW1.out.blk HB1.out (fun x => x))).cell 5
    have rf5 : w1.frozen? ⟨N + 1, 5, none⟩ = false := ((HW1.out.blk HB1.out (fun x => x))).frozen 5
    unfold retV zeroC at HPOST
    go_wp2_with fail
    exact bodyPost_ret (v := .tuple #[.agg #[.int .i64 0, .int .i64 0, .int .i64 0, .string ⟨#[]⟩, .slice none 0 0, .slice none 0 0], .int .i64 3]) (by simp [results, Tryz.results6, go_sem, r0, r1, r2, r3, r4, r5]) rfl (HPOST.out _ (by repeat (first | with_reducible exact Only.refl _ _ | with_reducible refine Only.drew ?_ | with_reducible refine Only.alloc ?_ _ | with_reducible refine Only.setCell ?_ (Or.inl ?_) _ | exact rfl | exact Or.inl rfl | exact Or.inr (Or.inl rfl) | exact Or.inr (Or.inr rfl) | exact Or.inr rfl)))
end Go.Proofs.YtdccckoelnnnoaaGreatDoor
