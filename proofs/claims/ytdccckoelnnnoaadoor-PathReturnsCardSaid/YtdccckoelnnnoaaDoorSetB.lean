/- path.Set. -/
import Derived.Test.YtdccckoelnnnoaaDoorCha
import Derived.Test.YtdccckoelnnnoaaDoorVaC
namespace Go.Proofs.YtdccckoelnnnoaaDoor
open Go.RowKit
attribute [local go_sem ↓] Go.wp_at_zero Go.wp_at_succ

def SetPost (L : List Pt) (T X : VT) (w : World) (e : Ending) (w' : World) : Prop := ∃ er v' T' n', e = retV v' er ∧ (er = 0 → okL L = true ∧ everyL L = false ∧ ChR L T X 0 T' ∧ VAt w' (fun b => w.heap.size ≤ b) n' v' T') ∧ (okL L = true → everyL L = false → ∃ T'', ChR L T X er T'') ∧ Only Nobody w w'

set_option maxRecDepth 100000 in
set_option maxHeartbeats 32000000 in
theorem set_any (v x : VC) (T X : VT) (S : Nat → Prop) (n : Nat) (A : Option Addr) (m c : Nat) (L : List Pt) (w : World) (hsz : T.size ≤ 140737488351232) (hszX : X.size ≤ 140737488351232) (hm : m ≤ 1000) (hmc : m ≤ c) (h : VAt w S n v T) (hx : VAt w S n x X) (hp : Pts w A m L) (ht : CalTab w) : Calls Tryd.prog 12 #[.agg #[.int .i64 v.k, .int .i64 v.i, .int .i64 v.s, .string v.t, .slice v.la v.ln v.lc, .slice v.fa v.fn v.fc], .slice A m c, .agg #[.int .i64 x.k, .int .i64 x.i, .int .i64 x.s, .string x.t, .slice x.la x.ln x.lc, .slice x.fa x.fn x.fc]] w (SetPost L T X w) := by
  have HV := Lib.hid h
  have HX := Lib.hid hx
  have HP := Lib.hid hp
  have HT := Lib.hid ht
  have hLm : L.length = m := hp.len
  clear h hx hp ht
  obtain ⟨N, HN⟩ : ∃ N, Hid (w.heap.size = N) := ⟨_, Lib.hid rfl⟩
  obtain ⟨W, HW⟩ : ∃ W, Hid (W = (((w.alloc (.cells #[.int .i64 v.k, .int .i64 v.i, .int .i64 v.s, .string v.t, .slice v.la v.ln v.lc, .slice v.fa v.fn v.fc] 25)).alloc (.cells #[.int .i64 x.k, .int .i64 x.i, .int .i64 x.s, .string x.t, .slice x.la x.ln x.lc, .slice x.fa x.fn x.fc] 25)).alloc (.cells #[.int .i64 0, .int .i64 0, .int .i64 0, .string ⟨#[]⟩, .slice none 0 0, .slice none 0 0] 25))) := ⟨_, Lib.hid rfl⟩
  have HOA : Hid (Only Nobody w W) := Lib.hid (by rw [HW.out]; exact (((Only.refl _ _).alloc _).alloc _).alloc _)
  have HB0 : Hid (Blk W (N) 25 #[.int .i64 v.k, .int .i64 v.i, .int .i64 v.s, .string v.t, .slice v.la v.ln v.lc, .slice v.fa v.fn v.fc]) := Lib.hid (by
    have := (Blk.new w 25 #[.int .i64 v.k, .int .i64 v.i, .int .i64 v.s, .string v.t, .slice v.la v.ln v.lc, .slice v.fa v.fn v.fc])
    rw [HW.out, ← HN.out]
    simpa using ((this.alloc (.cells #[.int .i64 x.k, .int .i64 x.i, .int .i64 x.s, .string x.t, .slice x.la x.ln x.lc, .slice x.fa x.fn x.fc] 25)).alloc (.cells #[.int .i64 0, .int .i64 0, .int .i64 0, .string ⟨#[]⟩, .slice none 0 0, .slice none 0 0] 25)))
  have HB1 : Hid (Blk W (N + 1) 25 #[.int .i64 x.k, .int .i64 x.i, .int .i64 x.s, .string x.t, .slice x.la x.ln x.lc, .slice x.fa x.fn x.fc]) := Lib.hid (by
    have := (Blk.new (w.alloc (.cells #[.int .i64 v.k, .int .i64 v.i, .int .i64 v.s, .string v.t, .slice v.la v.ln v.lc, .slice v.fa v.fn v.fc] 25)) 25 #[.int .i64 x.k, .int .i64 x.i, .int .i64 x.s, .string x.t, .slice x.la x.ln x.lc, .slice x.fa x.fn x.fc])
    rw [HW.out, ← HN.out]
    simpa using (this.alloc (.cells #[.int .i64 0, .int .i64 0, .int .i64 0, .string ⟨#[]⟩, .slice none 0 0, .slice none 0 0] 25)))
  have HB2 : Hid (Blk W (N + 1 + 1) 25 #[.int .i64 0, .int .i64 0, .int .i64 0, .string ⟨#[]⟩, .slice none 0 0, .slice none 0 0]) := Lib.hid (by
    have := (Blk.new ((w.alloc (.cells #[.int .i64 v.k, .int .i64 v.i, .int .i64 v.s, .string v.t, .slice v.la v.ln v.lc, .slice v.fa v.fn v.fc] 25)).alloc (.cells #[.int .i64 x.k, .int .i64 x.i, .int .i64 x.s, .string x.t, .slice x.la x.ln x.lc, .slice x.fa x.fn x.fc] 25)) 25 #[.int .i64 0, .int .i64 0, .int .i64 0, .string ⟨#[]⟩, .slice none 0 0, .slice none 0 0])
    rw [HW.out, ← HN.out]
    simpa using this)
  have HWS : Hid (W.heap.size = N + 3) := Lib.hid (by rw [HW.out, ← HN.out]; simp)
  go_enter Tryd.func12, Tryd.ntmps12
  go_upto_region 1 with fail
  rw [← HW.out, HN.out]
  have HCK := Lib.hid (check_any A m c L W (HP.out.same HOA.out) (HT.out.same HOA.out))
  have HR := Lib.hid (Only.refl Nobody W)
  go_wp2_with fail
  refine HCK.out.mono ?_
  rintro e w1 ⟨rfl, ho1⟩
  have HW1 := Lib.hid ho1
  have HO1 := Lib.hid (HOA.out.trans ho1)
  have HEV := Lib.hid (every_any A m c L hm w1 (HP.out.same HO1.out))
  clear ho1
  by_cases hok : okL L = true
  · rw [chkE_ok hok]
    have HOK := Lib.hid hok
    clear hok
    go_wp2_with fail
    refine HEV.out.mono ?_
    rintro e w2 ⟨rfl, ho2⟩
    have H2 := Lib.hid (HW1.out.trans ho2)
    have HOw2 := Lib.hid (HO1.out.trans ho2)
    clear ho2
    cases hev : everyL L with
    | true =>
      have r0 : w2.cell? ⟨N + 1 + 1, 0, none⟩ = some (.int .i64 0) := ((H2.out.blk HB2.out (fun x => x))).cell 0
      have rf0 : w2.frozen? ⟨N + 1 + 1, 0, none⟩ = false := ((H2.out.blk HB2.out (fun x => x))).frozen 0
      have r1 : w2.cell? ⟨N + 1 + 1, 1, none⟩ = some (.int .i64 0) := ((H2.out.blk HB2.out (fun x => x))).cell 1
      have rf1 : w2.frozen? ⟨N + 1 + 1, 1, none⟩ = false := ((H2.out.blk HB2.out (fun x => x))).frozen 1
      have r2 : w2.cell? ⟨N + 1 + 1, 2, none⟩ = some (.int .i64 0) := ((H2.out.blk HB2.out (fun x => x))).cell 2
      have rf2 : w2.frozen? ⟨N + 1 + 1, 2, none⟩ = false := ((H2.out.blk HB2.out (fun x => x))).frozen 2
      have r3 : w2.cell? ⟨N + 1 + 1, 3, none⟩ = some (.string ⟨#[]⟩) := ((H2.out.blk HB2.out (fun x => x))).cell 3
      have rf3 : w2.frozen? ⟨N + 1 + 1, 3, none⟩ = false := ((H2.out.blk HB2.out (fun x => x))).frozen 3
      have r4 : w2.cell? ⟨N + 1 + 1, 4, none⟩ = some (.slice none 0 0) := ((H2.out.blk HB2.out (fun x => x))).cell 4
      have rf4 : w2.frozen? ⟨N + 1 + 1, 4, none⟩ = false := ((H2.out.blk HB2.out (fun x => x))).frozen 4
      have r5 : w2.cell? ⟨N + 1 + 1, 5, none⟩ = some (.slice none 0 0) := ((H2.out.blk HB2.out (fun x => x))).cell 5
      have rf5 : w2.frozen? ⟨N + 1 + 1, 5, none⟩ = false := ((H2.out.blk HB2.out (fun x => x))).frozen 5
      have HPOST : Hid (∀ wE, Only (fun b => b = N + 1 + 1) w2 wE → SetPost L T X w (retV zeroC 3) wE) := Lib.hid fun wE hE => ⟨3, zeroC, VT.zero, 1, rfl, fun h => by omega, (fun _ h => by rw [hev] at h; cases h), HOw2.out.trans_more (hE.mono (fun b e => .inr (by rw [HN.out]; omega)))⟩
      clear hev
      go_wp2_with fail
      exact bodyPost_ret (v := .tuple #[.agg #[.int .i64 0, .int .i64 0, .int .i64 0, .string ⟨#[]⟩, .slice none 0 0, .slice none 0 0], .int .i64 3]) (by simp [results, Tryd.results12, go_sem, r0, r1, r2, r3, r4, r5]) rfl (HPOST.out _ (by repeat (first | with_reducible exact Only.refl _ _ | with_reducible refine Only.drew ?_ | with_reducible refine Only.alloc ?_ _ | with_reducible refine Only.setCell ?_ (Or.inl ?_) _ | exact rfl | exact Or.inl rfl | exact Or.inr (Or.inl rfl) | exact Or.inr (Or.inr rfl) | exact Or.inr rfl)))
    | false =>
      have hev := Lib.hid hev
      obtain ⟨k1, k2, hall, k3, k4⟩ := okL_parts HOK.out
      have hne : L ≠ [] := by intro e; rw [e] at k1; simp at k1
      have hLle : L.length ≤ 16 := k2
      clear k1 k2 k3 k4
      have hst : (store ⟨w2.heap.size, 0, none⟩ (.func (.func 30) #[] #[])).run Tryd.prog (w2.alloc (.cells #[.nilFunc] 66)) = .ok () ((w2.alloc (.cells #[.nilFunc] 66)).setCell ⟨w2.heap.size, 0, none⟩ (.func (.func 30) #[] #[])) := by
        rw [run_store Tryd.prog _ _ _ _ rfl, (Blk.new w2 66 #[.nilFunc]).cell 0]
        simp [(Blk.new w2 66 #[.nilFunc]).frozen 0]
      go_upto_region 4 with fail
      obtain ⟨W2, HW2⟩ : ∃ W2, Hid (W2 = w2.alloc (.cells #[(.func (.func 30) #[] #[])] 66)) := ⟨_, Lib.hid rfl⟩
      rw [← HW2.out]
      have hN2 : N + 3 ≤ w2.heap.size := by rw [← HWS.out]; exact H2.out.size
      have HO2 : Hid (Only Nobody w W2) := Lib.hid (by rw [HW2.out]; exact HOw2.out.alloc _)
      have HWW : Hid (Only Nobody W W2) := Lib.hid (by rw [HW2.out]; exact H2.out.alloc _)
      have HC0 : Hid (∀ w', Only Nobody W2 w' → Blk w' N 25 #[.int .i64 v.k, .int .i64 v.i, .int .i64 v.s, .string v.t, .slice v.la v.ln v.lc, .slice v.fa v.fn v.fc]) := Lib.hid fun w' h => (HWW.out.trans h).blk HB0.out (fun x => x)
      have HC1 : Hid (∀ w', Only Nobody W2 w' → Blk w' (N + 1) 25 #[.int .i64 x.k, .int .i64 x.i, .int .i64 x.s, .string x.t, .slice x.la x.ln x.lc, .slice x.fa x.fn x.fc]) := Lib.hid fun w' h => (HWW.out.trans h).blk HB1.out (fun x => x)
      have HC2 : Hid (∀ w', Only Nobody W2 w' → Blk w' (N + 1 + 1) 25 #[.int .i64 0, .int .i64 0, .int .i64 0, .string ⟨#[]⟩, .slice none 0 0, .slice none 0 0]) := Lib.hid fun w' h => (HWW.out.trans h).blk HB2.out (fun x => x)
      have HBA : Hid (∀ w', Only Nobody W2 w' → Blk w' w2.heap.size 66 #[(.func (.func 30) #[] #[])]) := Lib.hid fun w' h => h.blk (by rw [HW2.out]; exact Blk.new _ _ _) (fun x => x)
      have HS2 : Hid (N + 3 ≤ W2.heap.size) := Lib.hid (Nat.le_trans hN2 (by rw [HW2.out]; simp))
      have HSC : Hid (∀ w', Only Nobody W2 w' → (w'.cell? ⟨N, 0, none⟩ = some (.int .i64 v.k) ∧ w'.cell? ⟨N, 1, none⟩ = some (.int .i64 v.i) ∧ w'.cell? ⟨N, 2, none⟩ = some (.int .i64 v.s) ∧ w'.cell? ⟨N, 3, none⟩ = some (.string v.t) ∧ w'.cell? ⟨N, 4, none⟩ = some (.slice v.la v.ln v.lc) ∧ w'.cell? ⟨N, 5, none⟩ = some (.slice v.fa v.fn v.fc)) ∧ w'.cell? ⟨w2.heap.size, 0, none⟩ = some (.func (.func 30) #[] #[])) := Lib.hid fun w' h => ⟨⟨(HC0.out w' h).cell 0, (HC0.out w' h).cell 1, (HC0.out w' h).cell 2, (HC0.out w' h).cell 3, (HC0.out w' h).cell 4, (HC0.out w' h).cell 5⟩, (HBA.out w' h).cell 0⟩
      have HOX := Lib.hid (Only.refl Nobody W2)
      have HN3 : Hid (W2.heap.size ≤ W2.heap.size) := Lib.hid (Nat.le_refl _)
      have HN4 : Hid (W2.heap.size ≤ W2.heap.size) := Lib.hid (Nat.le_refl _)
      have HZ2 : Hid (∀ w', Only Nobody (W2.alloc (.cells #[.int .i64 0, .int .i64 0, .int .i64 0, .string ⟨#[]⟩, .slice none 0 0, .slice none 0 0] 25)) w' → Blk w' W2.heap.size 25 #[.int .i64 0, .int .i64 0, .int .i64 0, .string ⟨#[]⟩, .slice none 0 0, .slice none 0 0]) := Lib.hid fun w' h' => h'.blk (Blk.new W2 _ _) (fun x => x)
      have hsc := HSC.out W2 HOX.out
      clear hst
      go_cut [9, 10] (fun yb ee wx => ∃ (vy : VC) (Yb : Nat) (e : Int) (Y : VT) (n' : Nat), yb = .pointer (some ⟨Yb, 0, none⟩) ∧ ee = .int .i64 e ∧ Blk wx Yb 25 #[.int .i64 vy.k, .int .i64 vy.i, .int .i64 vy.s, .string vy.t, .slice vy.la vy.ln vy.lc, .slice vy.fa vy.fn vy.fc] ∧ Hid (ChR L T X e Y) ∧ Hid (e ≠ 0 → vy = zeroC) ∧ Hid (e = 0 → VAt wx Any_ n' vy Y) ∧ Only Nobody W2 wx)
      case first =>
        go_region_held3 (fun w' => (w'.cell? ⟨N, 0, none⟩ = some (.int .i64 v.k) ∧ w'.cell? ⟨N, 1, none⟩ = some (.int .i64 v.i) ∧ w'.cell? ⟨N, 2, none⟩ = some (.int .i64 v.s) ∧ w'.cell? ⟨N, 3, none⟩ = some (.string v.t) ∧ w'.cell? ⟨N, 4, none⟩ = some (.slice v.la v.ln v.lc) ∧ w'.cell? ⟨N, 5, none⟩ = some (.slice v.fa v.fn v.fc)) ∧ w'.cell? ⟨w2.heap.size, 0, none⟩ = some (.func (.func 30) #[] #[])) (exact HSC.out _ (by repeat (first | with_reducible exact HOX.out | with_reducible exact Only.refl _ _ | with_reducible refine Only.drew ?_ | with_reducible refine Only.alloc ?_ _ | with_reducible refine Only.setCell ?_ (Or.inr ?_) _ | exact HN4.out | exact HN3.out | exact Nat.le_refl _))) (first
          | (go_at_call 30; refine (set1_any rcdC _).mono ?_; rintro e w3 ⟨⟨bm, rfl, hbm⟩, ho3⟩; have HBM := Lib.hid hbm; have HZ3 : Hid (∀ w', Only Nobody (w3.alloc (.cells #[.int .i64 0, .int .i64 0, .int .i64 0, .string ⟨#[]⟩, .slice none 0 0, .slice none 0 0] 25)) w' → Blk w' w3.heap.size 25 #[.int .i64 0, .int .i64 0, .int .i64 0, .string ⟨#[]⟩, .slice none 0 0, .slice none 0 0]) := Lib.hid fun w' h' => h'.blk (Blk.new w3 _ _) (fun x => x); (first | (with_reducible have HBQ := Lib.hid (HZ2.out w3 ho3)) | (have HBQ := Lib.hid (HZ2.out w3 (Only.trans (Only.refl _ _).drew ho3))) | skip); have HOX : Hid (Only Nobody W2 w3) := Lib.hid (Only.trans (by repeat (first | with_reducible exact HOX.out | with_reducible exact Only.refl _ _ | with_reducible refine Only.drew ?_ | with_reducible refine Only.alloc ?_ _ | with_reducible refine Only.setCell ?_ (Or.inr ?_) _ | exact HN4.out | exact HN3.out | exact Nat.le_refl _)) ho3); have HN3 : Hid (W2.heap.size ≤ w3.heap.size) := Lib.hid HOX.out.size; clear hbm ho3)
          | (go_at_call 33; refine (change_any L T hne hall hev.out v x X (fun b => S b ∧ b < N) n A m c w2.heap.size (N + 1) bm _ (by omega) hm hmc ((vat_in HV.out HN.out HO2.out).same (by repeat (first | with_reducible exact HOX.out | with_reducible exact Only.refl _ _ | with_reducible refine Only.drew ?_ | with_reducible refine Only.alloc ?_ _ | with_reducible refine Only.setCell ?_ (Or.inr ?_) _ | exact HN4.out | exact HN3.out | exact Nat.le_refl _))) ((vat_in HX.out HN.out HO2.out).same (by repeat (first | with_reducible exact HOX.out | with_reducible exact Only.refl _ _ | with_reducible refine Only.drew ?_ | with_reducible refine Only.alloc ?_ _ | with_reducible refine Only.setCell ?_ (Or.inr ?_) _ | exact HN4.out | exact HN3.out | exact Nat.le_refl _))) (HP.out.same (HO2.out.trans (by repeat (first | with_reducible exact HOX.out | with_reducible exact Only.refl _ _ | with_reducible refine Only.drew ?_ | with_reducible refine Only.alloc ?_ _ | with_reducible refine Only.setCell ?_ (Or.inr ?_) _ | exact HN4.out | exact HN3.out | exact Nat.le_refl _)))) (HBA.out _ (by repeat (first | with_reducible exact HOX.out | with_reducible exact Only.refl _ _ | with_reducible refine Only.drew ?_ | with_reducible refine Only.alloc ?_ _ | with_reducible refine Only.setCell ?_ (Or.inr ?_) _ | exact HN4.out | exact HN3.out | exact Nat.le_refl _))) (HC1.out _ (by repeat (first | with_reducible exact HOX.out | with_reducible exact Only.refl _ _ | with_reducible refine Only.drew ?_ | with_reducible refine Only.alloc ?_ _ | with_reducible refine Only.setCell ?_ (Or.inr ?_) _ | exact HN4.out | exact HN3.out | exact Nat.le_refl _))) (Only.blk (F := Nobody) (by repeat (first | with_reducible exact Only.refl _ _ | with_reducible refine Only.drew ?_ | with_reducible refine Only.alloc ?_ _)) HBM.out (fun x => x))).mono ?_; rintro e w4 ⟨er, Y, n', hch, ⟨vy, rfl, hzy, hvy⟩, ho4⟩; unfold retV; have HCH := Lib.hid hch; have HZY := Lib.hid hzy; (first | ((first | (with_reducible have HBK := HZ3.out w4 ho4) | (have HBK := HZ3.out w4 (Only.trans (Only.refl _ _).drew ho4))); have e0 : w4.cell? ⟨w3.heap.size, 0, none⟩ = some (.int .i64 0) := HBK.cell 0; have ef0 : w4.frozen? ⟨w3.heap.size, 0, none⟩ = false := HBK.frozen 0; have e1 : w4.cell? ⟨w3.heap.size, 1, none⟩ = some (.int .i64 0) := HBK.cell 1; have ef1 : w4.frozen? ⟨w3.heap.size, 1, none⟩ = false := HBK.frozen 1; have e2 : w4.cell? ⟨w3.heap.size, 2, none⟩ = some (.int .i64 0) := HBK.cell 2; have ef2 : w4.frozen? ⟨w3.heap.size, 2, none⟩ = false := HBK.frozen 2; have e3 : w4.cell? ⟨w3.heap.size, 3, none⟩ = some (.string ⟨#[]⟩) := HBK.cell 3; have ef3 : w4.frozen? ⟨w3.heap.size, 3, none⟩ = false := HBK.frozen 3; have e4 : w4.cell? ⟨w3.heap.size, 4, none⟩ = some (.slice none 0 0) := HBK.cell 4; have ef4 : w4.frozen? ⟨w3.heap.size, 4, none⟩ = false := HBK.frozen 4; have e5 : w4.cell? ⟨w3.heap.size, 5, none⟩ = some (.slice none 0 0) := HBK.cell 5; have ef5 : w4.frozen? ⟨w3.heap.size, 5, none⟩ = false := HBK.frozen 5; have HYV : Hid (er = 0 → VAt w4 (fun b => b ≠ w3.heap.size) n' vy Y) := Lib.hid fun h0 => (hvy h0).mono fun b hb hs => (by intro e; subst e; have h9 := HN3.out; have h8 := HS2.out; rcases hs with hs | hs; have h7 := hs.2; omega; simp at hs <;> omega); have HBK := Lib.hid HBK) | (have HBK := ho4.blk HBQ.out (fun x => x); have e0 : w4.cell? ⟨W2.heap.size, 0, none⟩ = some (.int .i64 0) := HBK.cell 0; have ef0 : w4.frozen? ⟨W2.heap.size, 0, none⟩ = false := HBK.frozen 0; have e1 : w4.cell? ⟨W2.heap.size, 1, none⟩ = some (.int .i64 0) := HBK.cell 1; have ef1 : w4.frozen? ⟨W2.heap.size, 1, none⟩ = false := HBK.frozen 1; have e2 : w4.cell? ⟨W2.heap.size, 2, none⟩ = some (.int .i64 0) := HBK.cell 2; have ef2 : w4.frozen? ⟨W2.heap.size, 2, none⟩ = false := HBK.frozen 2; have e3 : w4.cell? ⟨W2.heap.size, 3, none⟩ = some (.string ⟨#[]⟩) := HBK.cell 3; have ef3 : w4.frozen? ⟨W2.heap.size, 3, none⟩ = false := HBK.frozen 3; have e4 : w4.cell? ⟨W2.heap.size, 4, none⟩ = some (.slice none 0 0) := HBK.cell 4; have ef4 : w4.frozen? ⟨W2.heap.size, 4, none⟩ = false := HBK.frozen 4; have e5 : w4.cell? ⟨W2.heap.size, 5, none⟩ = some (.slice none 0 0) := HBK.cell 5; have ef5 : w4.frozen? ⟨W2.heap.size, 5, none⟩ = false := HBK.frozen 5; have HYV : Hid (er = 0 → VAt w4 (fun b => b ≠ W2.heap.size) n' vy Y) := Lib.hid fun h0 => (hvy h0).mono fun b hb hs => (by intro e; subst e; have h9 := HBQ.out.lt; have h8 := HS2.out; rcases hs with hs | hs; have h7 := hs.2; omega; exact absurd hs (by omega)); have HBK := Lib.hid HBK) | (have HBK := Blk.new w4 25 #[.int .i64 0, .int .i64 0, .int .i64 0, .string ⟨#[]⟩, .slice none 0 0, .slice none 0 0]; have e0 : (w4.alloc (.cells #[.int .i64 0, .int .i64 0, .int .i64 0, .string ⟨#[]⟩, .slice none 0 0, .slice none 0 0] 25)).cell? ⟨w4.heap.size, 0, none⟩ = some (.int .i64 0) := HBK.cell 0; have ef0 : (w4.alloc (.cells #[.int .i64 0, .int .i64 0, .int .i64 0, .string ⟨#[]⟩, .slice none 0 0, .slice none 0 0] 25)).frozen? ⟨w4.heap.size, 0, none⟩ = false := HBK.frozen 0; have e1 : (w4.alloc (.cells #[.int .i64 0, .int .i64 0, .int .i64 0, .string ⟨#[]⟩, .slice none 0 0, .slice none 0 0] 25)).cell? ⟨w4.heap.size, 1, none⟩ = some (.int .i64 0) := HBK.cell 1; have ef1 : (w4.alloc (.cells #[.int .i64 0, .int .i64 0, .int .i64 0, .string ⟨#[]⟩, .slice none 0 0, .slice none 0 0] 25)).frozen? ⟨w4.heap.size, 1, none⟩ = false := HBK.frozen 1; have e2 : (w4.alloc (.cells #[.int .i64 0, .int .i64 0, .int .i64 0, .string ⟨#[]⟩, .slice none 0 0, .slice none 0 0] 25)).cell? ⟨w4.heap.size, 2, none⟩ = some (.int .i64 0) := HBK.cell 2; have ef2 : (w4.alloc (.cells #[.int .i64 0, .int .i64 0, .int .i64 0, .string ⟨#[]⟩, .slice none 0 0, .slice none 0 0] 25)).frozen? ⟨w4.heap.size, 2, none⟩ = false := HBK.frozen 2; have e3 : (w4.alloc (.cells #[.int .i64 0, .int .i64 0, .int .i64 0, .string ⟨#[]⟩, .slice none 0 0, .slice none 0 0] 25)).cell? ⟨w4.heap.size, 3, none⟩ = some (.string ⟨#[]⟩) := HBK.cell 3; have ef3 : (w4.alloc (.cells #[.int .i64 0, .int .i64 0, .int .i64 0, .string ⟨#[]⟩, .slice none 0 0, .slice none 0 0] 25)).frozen? ⟨w4.heap.size, 3, none⟩ = false := HBK.frozen 3; have e4 : (w4.alloc (.cells #[.int .i64 0, .int .i64 0, .int .i64 0, .string ⟨#[]⟩, .slice none 0 0, .slice none 0 0] 25)).cell? ⟨w4.heap.size, 4, none⟩ = some (.slice none 0 0) := HBK.cell 4; have ef4 : (w4.alloc (.cells #[.int .i64 0, .int .i64 0, .int .i64 0, .string ⟨#[]⟩, .slice none 0 0, .slice none 0 0] 25)).frozen? ⟨w4.heap.size, 4, none⟩ = false := HBK.frozen 4; have e5 : (w4.alloc (.cells #[.int .i64 0, .int .i64 0, .int .i64 0, .string ⟨#[]⟩, .slice none 0 0, .slice none 0 0] 25)).cell? ⟨w4.heap.size, 5, none⟩ = some (.slice none 0 0) := HBK.cell 5; have ef5 : (w4.alloc (.cells #[.int .i64 0, .int .i64 0, .int .i64 0, .string ⟨#[]⟩, .slice none 0 0, .slice none 0 0] 25)).frozen? ⟨w4.heap.size, 5, none⟩ = false := HBK.frozen 5; have HYV : Hid (er = 0 → VAt w4 (fun b => b ≠ w4.heap.size) n' vy Y) := Lib.hid fun h0 => (hvy h0).mono fun b hb hs => (by omega); have HBK := Lib.hid HBK)); have HOX : Hid (Only Nobody W2 w4) := Lib.hid (Only.trans (by repeat (first | with_reducible exact HOX.out | with_reducible exact Only.refl _ _ | with_reducible refine Only.drew ?_ | with_reducible refine Only.alloc ?_ _ | with_reducible refine Only.setCell ?_ (Or.inr ?_) _ | exact HN4.out | exact HN3.out | exact Nat.le_refl _)) ho4); have HN4 : Hid (W2.heap.size ≤ w4.heap.size) := Lib.hid HOX.out.size; clear hch hzy hvy ho4))
        all_goals
          go_wp2_with fail
          go_meet
          refine ⟨vy, _, er, Y, n', rfl, rfl, ?_, HCH, HZY, Lib.hid fun h0 => ((HYV.out h0).keep (F := fun b => b = _) ?_ (fun b hb e => hb e)).any, ?_⟩
          · first
              | with_reducible exact Blk.new _ _ _
              | exact (((((HBK.out.set_ 0 _).set_ 1 _).set_ 2 _).set_ 3 _).set_ 4 _).set_ 5 _
          · repeat (first | with_reducible exact Only.refl _ _ | with_reducible refine Only.drew ?_ | with_reducible refine Only.alloc ?_ _ | with_reducible refine Only.setCell ?_ (Or.inl ?_) _ | exact rfl)
          · exact (by repeat (first | with_reducible exact HOX.out | with_reducible exact Only.refl _ _ | with_reducible refine Only.drew ?_ | with_reducible refine Only.alloc ?_ _ | with_reducible refine Only.setCell ?_ (Or.inr ?_) _ | exact HN4.out | exact HN3.out | exact Nat.le_refl _))
      case rest =>
        obtain ⟨vy, Yb, e6, Y, n', rfl, rfl, hby, hch, hzy, hvy, hox⟩ := hcut
        have HOc := Lib.hid (HO2.out.trans hox)
        have H2c := Lib.hid hox
        obtain ⟨nn, Z, hvz, hZY, hsz6⟩ : ∃ nn Z, VAt wc Any_ nn vy Z ∧ (e6 = 0 → Z = Y) ∧ Z.size ≤ 140737488351232 := by
          by_cases h0 : e6 = 0
          · subst h0
            refine ⟨n', Y, hvy.out (by first | rfl | trivial), fun _ => rfl, ?_⟩
            have h1 := ch_size hch.out
            omega
          · refine ⟨1, VT.zero, by rw [hzy.out h0]; exact zero_at _ _ _, fun h => absurd h h0, ?_⟩
            simp [VT.zero, VT.size, sizeL, sizeF]
        have HVZ := Lib.hid hvz
        have HZZ := Lib.hid hZY
        have y0 : wc.cell? ⟨Yb, 0, none⟩ = some (.int .i64 vy.k) := (hby).cell 0
        have y1 : wc.cell? ⟨Yb, 1, none⟩ = some (.int .i64 vy.i) := (hby).cell 1
        have y2 : wc.cell? ⟨Yb, 2, none⟩ = some (.int .i64 vy.s) := (hby).cell 2
        have y3 : wc.cell? ⟨Yb, 3, none⟩ = some (.string vy.t) := (hby).cell 3
        have y4 : wc.cell? ⟨Yb, 4, none⟩ = some (.slice vy.la vy.ln vy.lc) := (hby).cell 4
        have y5 : wc.cell? ⟨Yb, 5, none⟩ = some (.slice vy.fa vy.fn vy.fc) := (hby).cell 5
        clear hby hvz hZY hvy hzy hsc
        go_wp2_with fail
        refine (clone_any nn vy Z Any_ wc hsz6 HVZ.out).mono ?_
        rintro e w6 ⟨v6, rfl, hv6, ho6⟩
        have hwc : N + 3 ≤ wc.heap.size := Nat.le_trans HS2.out H2c.out.size
        have HPOST : Hid (∀ wE, Only (fun b => b = N + 1 + 1) w6 wE → SetPost L T X w (retV v6 e6) wE) := Lib.hid fun wE hE => ⟨e6, v6, Z, nn, rfl, fun h0 => ⟨HOK.out, hev.out, by rw [HZZ.out h0]; have := hch.out; rw [h0] at this; exact this, (hv6.keep hE (fun b hb e => by have h7 : wc.heap.size ≤ b := hb; omega)).mono (fun b _ hb => by have h7 : wc.heap.size ≤ b := hb; rw [HN.out]; omega)⟩, fun _ _ => ⟨Y, hch.out⟩, (HOc.out.trans ho6).trans_more (hE.mono (fun b e => .inr (by rw [HN.out]; omega)))⟩
        have H26 := Lib.hid (H2c.out.trans ho6)
        clear hv6 ho6 y0 y1 y2 y3 y4 y5
        have r0 : w6.cell? ⟨N + 1 + 1, 0, none⟩ = some (.int .i64 0) := ((HC2.out w6 H26.out)).cell 0
        have rf0 : w6.frozen? ⟨N + 1 + 1, 0, none⟩ = false := ((HC2.out w6 H26.out)).frozen 0
        have r1 : w6.cell? ⟨N + 1 + 1, 1, none⟩ = some (.int .i64 0) := ((HC2.out w6 H26.out)).cell 1
        have rf1 : w6.frozen? ⟨N + 1 + 1, 1, none⟩ = false := ((HC2.out w6 H26.out)).frozen 1
        have r2 : w6.cell? ⟨N + 1 + 1, 2, none⟩ = some (.int .i64 0) := ((HC2.out w6 H26.out)).cell 2
        have rf2 : w6.frozen? ⟨N + 1 + 1, 2, none⟩ = false := ((HC2.out w6 H26.out)).frozen 2
        have r3 : w6.cell? ⟨N + 1 + 1, 3, none⟩ = some (.string ⟨#[]⟩) := ((HC2.out w6 H26.out)).cell 3
        have rf3 : w6.frozen? ⟨N + 1 + 1, 3, none⟩ = false := ((HC2.out w6 H26.out)).frozen 3
        have r4 : w6.cell? ⟨N + 1 + 1, 4, none⟩ = some (.slice none 0 0) := ((HC2.out w6 H26.out)).cell 4
        have rf4 : w6.frozen? ⟨N + 1 + 1, 4, none⟩ = false := ((HC2.out w6 H26.out)).frozen 4
        have r5 : w6.cell? ⟨N + 1 + 1, 5, none⟩ = some (.slice none 0 0) := ((HC2.out w6 H26.out)).cell 5
        have rf5 : w6.frozen? ⟨N + 1 + 1, 5, none⟩ = false := ((HC2.out w6 H26.out)).frozen 5
        unfold retV at HPOST
        go_wp2_with fail
        exact bodyPost_ret (v := .tuple #[.agg #[.int .i64 v6.k, .int .i64 v6.i, .int .i64 v6.s, .string v6.t, .slice v6.la v6.ln v6.lc, .slice v6.fa v6.fn v6.fc], .int .i64 e6]) (by simp [results, Tryd.results12, go_sem, r0, r1, r2, r3, r4, r5]) rfl (HPOST.out _ (by repeat (first | with_reducible exact Only.refl _ _ | with_reducible refine Only.drew ?_ | with_reducible refine Only.alloc ?_ _ | with_reducible refine Only.setCell ?_ (Or.inl ?_) _ | exact rfl | exact Or.inl rfl | exact Or.inr (Or.inl rfl) | exact Or.inr (Or.inr rfl) | exact Or.inr rfl)))
  · rw [chkE_no hok]
    have r0 : w1.cell? ⟨N + 1 + 1, 0, none⟩ = some (.int .i64 0) := ((HW1.out.blk HB2.out (fun x => x))).cell 0
    have rf0 : w1.frozen? ⟨N + 1 + 1, 0, none⟩ = false := ((HW1.out.blk HB2.out (fun x => x))).frozen 0
    have r1 : w1.cell? ⟨N + 1 + 1, 1, none⟩ = some (.int .i64 0) := ((HW1.out.blk HB2.out (fun x => x))).cell 1
    have rf1 : w1.frozen? ⟨N + 1 + 1, 1, none⟩ = false := ((HW1.out.blk HB2.out (fun x => x))).frozen 1
    have r2 : w1.cell? ⟨N + 1 + 1, 2, none⟩ = some (.int .i64 0) := ((HW1.out.blk HB2.out (fun x => x))).cell 2
    have rf2 : w1.frozen? ⟨N + 1 + 1, 2, none⟩ = false := ((HW1.out.blk HB2.out (fun x => x))).frozen 2
    have r3 : w1.cell? ⟨N + 1 + 1, 3, none⟩ = some (.string ⟨#[]⟩) := ((HW1.out.blk HB2.out (fun x => x))).cell 3
    have rf3 : w1.frozen? ⟨N + 1 + 1, 3, none⟩ = false := ((HW1.out.blk HB2.out (fun x => x))).frozen 3
    have r4 : w1.cell? ⟨N + 1 + 1, 4, none⟩ = some (.slice none 0 0) := ((HW1.out.blk HB2.out (fun x => x))).cell 4
    have rf4 : w1.frozen? ⟨N + 1 + 1, 4, none⟩ = false := ((HW1.out.blk HB2.out (fun x => x))).frozen 4
    have r5 : w1.cell? ⟨N + 1 + 1, 5, none⟩ = some (.slice none 0 0) := ((HW1.out.blk HB2.out (fun x => x))).cell 5
    have rf5 : w1.frozen? ⟨N + 1 + 1, 5, none⟩ = false := ((HW1.out.blk HB2.out (fun x => x))).frozen 5
    have HPOST : Hid (∀ wE, Only (fun b => b = N + 1 + 1) w1 wE → SetPost L T X w (retV zeroC 3) wE) := Lib.hid fun wE hE => ⟨3, zeroC, VT.zero, 1, rfl, fun h => by omega, fun h => absurd h hok, HO1.out.trans_more (hE.mono (fun b e => .inr (by rw [HN.out]; omega)))⟩
    clear hok
    go_wp2_with fail
    exact bodyPost_ret (v := .tuple #[.agg #[.int .i64 0, .int .i64 0, .int .i64 0, .string ⟨#[]⟩, .slice none 0 0, .slice none 0 0], .int .i64 3]) (by simp [results, Tryd.results12, go_sem, r0, r1, r2, r3, r4, r5]) rfl (HPOST.out _ (by repeat (first | with_reducible exact Only.refl _ _ | with_reducible refine Only.drew ?_ | with_reducible refine Only.alloc ?_ _ | with_reducible refine Only.setCell ?_ (Or.inl ?_) _ | exact rfl | exact Or.inl rfl | exact Or.inr (Or.inl rfl) | exact Or.inr (Or.inr rfl) | exact Or.inr rfl)))
end Go.Proofs.YtdccckoelnnnoaaDoor
