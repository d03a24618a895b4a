/- Path, the reference: Delete. -/
import Derived.Test.YtdccckoelnnnoaaGreatDoorRdC
namespace Go.Proofs.YtdccckoelnnnoaaGreatDoor
open Go.RowKit
attribute [local go_sem ↓] Go.wp_at_zero Go.wp_at_succ

theorem Pts.take_ {w : World} {A : Option Addr} {m q : Nat} {L : List Pt} (h : Pts w A m L) (hq : q ≤ m) : Pts w A q (L.take q) := by
  have hl : (L.take q).length = q := by rw [List.length_take, h.len]; omega
  refine ⟨⟨by rw [ptVals_length, hl], fun h0 => ?_⟩, hl⟩
  obtain ⟨ad, e, hlt, hc⟩ := h.rd.2 (by omega)
  refine ⟨ad, e, hlt, fun j u hu => hc j u ?_⟩
  have hj : j < (ptVals (L.take q)).length := (List.getElem?_eq_some_iff.1 hu).1
  have e2 : ptVals L = ptVals (L.take q) ++ ptVals (L.drop q) := by
    unfold ptVals
    rw [← List.flatMap_append, List.take_append_drop]
  rw [e2, List.getElem?_append_left hj]
  exact hu
def RDelPost (S : Nat → Prop) (L : List Pt) (T : VT) (w : World) (e : Ending) (w' : World) : Prop := ∃ (v' : VC) (n' : Nat), e = .returned (.agg #[.int .i64 v'.k, .int .i64 v'.i, .int .i64 v'.s, .string v'.t, .slice v'.la v'.ln v'.lc, .slice v'.fa v'.fn v'.fc]) ∧ VAt w' (NewS S w) n' v' (dlT L T) ∧ Only Nobody w w'
def RdAt (L : List Pt) (T : VT) : Prop := ∀ (v : VC) (S : Nat → Prop) (n : Nat) (A : Option Addr) (m c : Nat) (w : World), T.size ≤ 140737488351232 → m ≤ 1000 → m ≤ c → dlE L T = 0 → VAt w S n v T → Pts w A m L →
  Calls Tryz.prog 13 #[.agg #[.int .i64 v.k, .int .i64 v.i, .int .i64 v.s, .string v.t, .slice v.la v.ln v.lc, .slice v.fa v.fn v.fc], .slice A m c] w (RDelPost S L T w)

set_option maxRecDepth 100000 in
set_option maxHeartbeats 32000000 in
theorem rdel_walk (k i : Int) (nm : ByteArray) (l : List Pt) (T U : VT) (rest : List VT) (hval : validB ⟨k, i, nm⟩ = true) (h3 : (k == 3) = false) (hap : appT ⟨k, i, nm⟩ T = true) (hL : leadL ⟨k, i, nm⟩ T = U :: rest) (hl : l ≠ []) (ih : RdAt l U) : RdAt (⟨k, i, nm⟩ :: l) T := by
  intro v S n A m c w hsz hm hmc hdl h hp
  have HDL : Hid (dlE l U = 0) := Lib.hid (by rw [← (dl_cons hap hl hL).1]; exact hdl)
  have HDT : Hid (dlT (⟨k, i, nm⟩ :: l) T = replT T ⟨k, i, nm⟩ (dlT l U)) := Lib.hid (dl_cons hap hl hL).2
  have HVAL := Lib.hid hval
  have H3 := Lib.hid h3
  have HAP := Lib.hid hap
  have HL := Lib.hid hL
  have HIH := Lib.hid ih
  have HV := Lib.hid h
  have HP := Lib.hid hp
  have hml : m = l.length + 1 := by rw [← hp.len]; rfl
  have hlp : 0 < l.length := List.length_pos_iff.2 hl
  have hm1 : (1 : Int) < (m : Int) := by omega
  obtain ⟨ad, rfl⟩ := hp.some_ (by omega)
  have HSZ6 : Hid (T.size ≤ 140737488351232) := Lib.hid (by omega)
  have hszT : Hid (T.size ≤ 140737488351232) := Lib.hid (by omega)
  have hszU : Hid (U.size ≤ 140737488351232) := Lib.hid (by have h1 := lead_size1 hL; omega)
  have HLP := Lib.hid (lead_parts hval h3 hap hL)
  have HPT := Lib.hid HP.out.tail_
  have HP1 : Hid (Pts w (some ad) 1 [⟨k, i, nm⟩]) := Lib.hid (HP.out.take_ (q := 1) (by omega))
  have HPA : Hid (∀ w', Only Nobody w w' → (w'.cell? ad = some (.int .i64 k) ∧ w'.cell? ⟨ad.block, ad.off + 1, none⟩ = some (.int .i64 i) ∧ w'.cell? ⟨ad.block, ad.off + 2, none⟩ = some (.string nm))) := Lib.hid fun w' ho => by
    obtain ⟨z0, z1, z2⟩ := (HP.out.same ho).at_ (i := 0) (o := ⟨k, i, nm⟩) rfl
    rw [Nat.zero_mul, addr_zero] at z0 z1 z2
    exact ⟨z0, z1, z2⟩
  have hm2 : 2 ≤ m := by omega
  have hm0 : (0 : Int) < (m : Int) := by omega
  have hm0N : 0 < m := by omega
  clear h hp hval h3 hap hL ih hsz hdl hml hlp hl
  obtain ⟨N, HN⟩ : ∃ N, Hid (w.heap.size = N) := ⟨_, Lib.hid rfl⟩
  obtain ⟨W, HW⟩ : ∃ W, Hid (W = ((w.alloc (.cells #[.int .i64 v.k, .int .i64 v.i, .int .i64 v.s, .string v.t, .slice v.la v.ln v.lc, .slice v.fa v.fn v.fc] 25)).alloc (.cells #[.int .i64 0, .int .i64 0, .int .i64 0, .string ⟨#[]⟩, .slice none 0 0, .slice none 0 0] 25))) := ⟨_, Lib.hid rfl⟩
  have HOA : Hid (Only Nobody w W) := Lib.hid (by rw [HW.out]; exact ((Only.refl _ _).alloc _).alloc _)
  have HB0 : Hid (Blk W (N) 25 #[.int .i64 v.k, .int .i64 v.i, .int .i64 v.s, .string v.t, .slice v.la v.ln v.lc, .slice v.fa v.fn v.fc]) := Lib.hid (by
    have := (Blk.new w 25 #[.int .i64 v.k, .int .i64 v.i, .int .i64 v.s, .string v.t, .slice v.la v.ln v.lc, .slice v.fa v.fn v.fc])
    rw [HW.out, ← HN.out]
    simpa using (this.alloc (.cells #[.int .i64 0, .int .i64 0, .int .i64 0, .string ⟨#[]⟩, .slice none 0 0, .slice none 0 0] 25)))
  have HB1 : Hid (Blk W (N + 1) 25 #[.int .i64 0, .int .i64 0, .int .i64 0, .string ⟨#[]⟩, .slice none 0 0, .slice none 0 0]) := Lib.hid (by
    have := (Blk.new (w.alloc (.cells #[.int .i64 v.k, .int .i64 v.i, .int .i64 v.s, .string v.t, .slice v.la v.ln v.lc, .slice v.fa v.fn v.fc] 25)) 25 #[.int .i64 0, .int .i64 0, .int .i64 0, .string ⟨#[]⟩, .slice none 0 0, .slice none 0 0])
    rw [HW.out, ← HN.out]
    simpa using this)
  have HWS : Hid (W.heap.size = N + 2) := Lib.hid (by rw [HW.out, ← HN.out]; simp)
  go_enter Tryz.func13, Tryz.ntmps13
  go_upto_region 1 with fail
  rw [← HW.out, HN.out]
  have HOX := Lib.hid (Only.refl Nobody W)
  have HN4 : Hid (W.heap.size ≤ W.heap.size) := Lib.hid (Nat.le_refl _)
  have HSC : Hid (∀ w', Only Nobody W w' → (w'.cell? ⟨N, 0, none⟩ = some (.int .i64 v.k) ∧ w'.cell? ⟨N, 1, none⟩ = some (.int .i64 v.i) ∧ w'.cell? ⟨N, 2, none⟩ = some (.int .i64 v.s) ∧ w'.cell? ⟨N, 3, none⟩ = some (.string v.t) ∧ w'.cell? ⟨N, 4, none⟩ = some (.slice v.la v.ln v.lc) ∧ w'.cell? ⟨N, 5, none⟩ = some (.slice v.fa v.fn v.fc)) ∧ (w'.cell? ad = some (.int .i64 k) ∧ w'.cell? ⟨ad.block, ad.off + 1, none⟩ = some (.int .i64 i) ∧ w'.cell? ⟨ad.block, ad.off + 2, none⟩ = some (.string nm))) := Lib.hid fun w' ho => by
    have h0 := ho.blk HB0.out (fun x => x)
    exact ⟨⟨h0.cell 0, h0.cell 1, h0.cell 2, h0.cell 3, h0.cell 4, h0.cell 5⟩, HPA.out w' (HOA.out.trans ho)⟩
  have hsc := HSC.out W HOX.out
  go_upto_region 2 with fail
  go_cut [5, 6] (fun a b wx => ∃ A3 c3 u, a = .slice (some A3) 1 c3 ∧ b = .bool true ∧ Hid (RowA VC.vals 6 wx Any_ (some A3) 1 [u]) ∧ Hid (VAt wx (fun b => S b ∧ b < N) n u U) ∧ Only Nobody W wx)
  case first =>
    go_region_held3 (fun w' => (w'.cell? ⟨N, 0, none⟩ = some (.int .i64 v.k) ∧ w'.cell? ⟨N, 1, none⟩ = some (.int .i64 v.i) ∧ w'.cell? ⟨N, 2, none⟩ = some (.int .i64 v.s) ∧ w'.cell? ⟨N, 3, none⟩ = some (.string v.t) ∧ w'.cell? ⟨N, 4, none⟩ = some (.slice v.la v.ln v.lc) ∧ w'.cell? ⟨N, 5, none⟩ = some (.slice v.fa v.fn v.fc)) ∧ (w'.cell? ad = some (.int .i64 k) ∧ w'.cell? ⟨ad.block, ad.off + 1, none⟩ = some (.int .i64 i) ∧ w'.cell? ⟨ad.block, ad.off + 2, none⟩ = some (.string nm))) (exact HSC.out _ (by repeat (first | with_reducible exact HOX.out | with_reducible exact Only.refl _ _ | with_reducible refine Only.drew ?_ | with_reducible refine Only.alloc ?_ _ | with_reducible refine Only.setCell ?_ (Or.inr ?_) _ | exact HN4.out | exact Nat.le_refl _))) (first
      | (go_at_call 38; refine (rlead_any k i nm v T (fun b => S b ∧ b < N) n HVAL.out HSZ6.out _ ((vat_in HV.out HN.out HOA.out).same (by repeat (first | with_reducible exact HOX.out | with_reducible exact Only.refl _ _ | with_reducible refine Only.drew ?_ | with_reducible refine Only.alloc ?_ _ | with_reducible refine Only.setCell ?_ (Or.inr ?_) _ | exact HN4.out | exact Nat.le_refl _)))).mono ?_; rintro e w3 ⟨A3, m3, c3, V3, rfl, hr3, ha3, ho3⟩; have HR3 := Lib.hid hr3; have HA3 := Lib.hid (ha3 HAP.out); have HOX : Hid (Only Nobody W w3) := Lib.hid (Only.trans (by repeat (first | with_reducible exact HOX.out | with_reducible exact Only.refl _ _ | with_reducible refine Only.drew ?_ | with_reducible refine Only.alloc ?_ _ | with_reducible refine Only.setCell ?_ (Or.inr ?_) _ | exact HN4.out | exact Nat.le_refl _)) ho3); clear hr3 ha3 ho3))
    all_goals
      obtain ⟨A4, u, rfl, rfl, rfl⟩ : ∃ A4 u, A3 = some A4 ∧ m3 = 1 ∧ V3 = [u] := by
        have h1 := HA3.out.1
        rw [HL.out, HLP.out.1] at h1
        have h2 := HR3.out.len
        obtain ⟨a4, e4⟩ := HR3.out.some_ (by rw [← h2, h1]; simp)
        match V3, h1 with
        | [u], _ => exact ⟨a4, u, e4, h2.symm, rfl⟩
      have HUV := Lib.hid (HA3.out.2 0 u U rfl (by rw [HL.out]; rfl))
      rw [HAP.out]
      go_wp2_with fail
      go_meet
      exact ⟨A4, c3, u, rfl, rfl, HR3, HUV, HOX.out⟩
  case rest =>
    obtain ⟨A3, c3, u, rfl, rfl, HR3, HUV, hox⟩ := hcut
    have HWC := Lib.hid hox
    have HOC := Lib.hid (HOA.out.trans hox)
    have hs3 : Hid (N + 2 ≤ wc.heap.size) := Lib.hid (by rw [← HWS.out]; exact hox.size)
    have HUSE : Hid (wc.heap.size ≤ wc.heap.size) := Lib.hid (Nat.le_refl _)
    have HUC : Hid (∀ w', Only Nobody wc w' → w'.cell? A3 = some (.int .i64 u.k) ∧ w'.cell? ⟨A3.block, A3.off + 1, none⟩ = some (.int .i64 u.i) ∧ w'.cell? ⟨A3.block, A3.off + 2, none⟩ = some (.int .i64 u.s) ∧ w'.cell? ⟨A3.block, A3.off + 3, none⟩ = some (.string u.t) ∧ w'.cell? ⟨A3.block, A3.off + 4, none⟩ = some (.slice u.la u.ln u.lc) ∧ w'.cell? ⟨A3.block, A3.off + 5, none⟩ = some (.slice u.fa u.fn u.fc)) := Lib.hid fun w' h => by
      obtain ⟨z0, z1, z2, z3, z4, z5⟩ := (HR3.out.same h).vat (i := 0) (o := u) rfl
      rw [Nat.zero_mul, addr_zero] at z0 z1 z2 z3 z4 z5
      exact ⟨z0, z1, z2, z3, z4, z5⟩
    have HOX := Lib.hid (Only.refl Nobody wc)
    have HN4 : Hid (wc.heap.size ≤ wc.heap.size) := Lib.hid (Nat.le_refl _)
    have HZ3 : Hid (∀ w', Only Nobody (wc.alloc (.cells #[.int .i64 0, .int .i64 0, .int .i64 0, .string ⟨#[]⟩, .slice none 0 0, .slice none 0 0] 25)) w' → Blk w' wc.heap.size 25 #[.int .i64 0, .int .i64 0, .int .i64 0, .string ⟨#[]⟩, .slice none 0 0, .slice none 0 0]) := Lib.hid fun w' h' => h'.blk (Blk.new wc _ _) (fun x => x)
    have h1c : (1 : Int) ≤ (c : Int) := by omega
    have h1m : (1 : Int) ≤ (m : Int) := by omega
    have hc1 : ¬ (c = 1) := by omega
    have huc := HUC.out wc HOX.out
    clear hsc hox
    go_upto_region 5 with fail
    go_cut [7] (fun yb wx => ∃ (vy : VC) (n' Yb : Nat), yb = .pointer (some ⟨Yb, 0, none⟩) ∧ Blk wx Yb 25 #[.int .i64 vy.k, .int .i64 vy.i, .int .i64 vy.s, .string vy.t, .slice vy.la vy.ln vy.lc, .slice vy.fa vy.fn vy.fc] ∧ Hid (VAt wx (fun b => (S b ∧ b < N) ∨ N + 2 ≤ b) n' vy (dlT l U)) ∧ Only Nobody wc wx)
    case first =>
      go_region_held3 (fun w' => w'.cell? A3 = some (.int .i64 u.k) ∧ w'.cell? ⟨A3.block, A3.off + 1, none⟩ = some (.int .i64 u.i) ∧ w'.cell? ⟨A3.block, A3.off + 2, none⟩ = some (.int .i64 u.s) ∧ w'.cell? ⟨A3.block, A3.off + 3, none⟩ = some (.string u.t) ∧ w'.cell? ⟨A3.block, A3.off + 4, none⟩ = some (.slice u.la u.ln u.lc) ∧ w'.cell? ⟨A3.block, A3.off + 5, none⟩ = some (.slice u.fa u.fn u.fc)) (exact HUC.out _ (by repeat (first | with_reducible exact HOX.out | with_reducible exact Only.refl _ _ | with_reducible refine Only.drew ?_ | with_reducible refine Only.alloc ?_ _ | with_reducible refine Only.setCell ?_ (Or.inr ?_) _ | exact HN4.out | exact Nat.le_refl _))) (first
        | (go_at_call 13; refine (HIH.out u (fun b => S b ∧ b < N) n (some (ad.add 3)) (m - 1) (c - 1) _ hszU.out (by omega) (by omega) HDL.out (HUV.out.same (by repeat (first | with_reducible exact HOX.out | with_reducible exact Only.refl _ _ | with_reducible refine Only.drew ?_ | with_reducible refine Only.alloc ?_ _ | with_reducible refine Only.setCell ?_ (Or.inr ?_) _ | exact HN4.out | exact Nat.le_refl _))) (HPT.out.same (HOC.out.trans (by repeat (first | with_reducible exact HOX.out | with_reducible exact Only.refl _ _ | with_reducible refine Only.drew ?_ | with_reducible refine Only.alloc ?_ _ | with_reducible refine Only.setCell ?_ (Or.inr ?_) _ | exact HN4.out | exact Nat.le_refl _))))).mono ?_; rintro e w4 ⟨vy, n', rfl, hvy, ho4⟩; (first | ((first | (with_reducible have HBK := HZ3.out w4 ho4) | (have HBK := HZ3.out w4 (Only.trans (Only.refl _ _).drew ho4))); have e0 : w4.cell? ⟨wc.heap.size, 0, none⟩ = some (.int .i64 0) := HBK.cell 0; have ef0 : w4.frozen? ⟨wc.heap.size, 0, none⟩ = false := HBK.frozen 0; have e1 : w4.cell? ⟨wc.heap.size, 1, none⟩ = some (.int .i64 0) := HBK.cell 1; have ef1 : w4.frozen? ⟨wc.heap.size, 1, none⟩ = false := HBK.frozen 1; have e2 : w4.cell? ⟨wc.heap.size, 2, none⟩ = some (.int .i64 0) := HBK.cell 2; have ef2 : w4.frozen? ⟨wc.heap.size, 2, none⟩ = false := HBK.frozen 2; have e3 : w4.cell? ⟨wc.heap.size, 3, none⟩ = some (.string ⟨#[]⟩) := HBK.cell 3; have ef3 : w4.frozen? ⟨wc.heap.size, 3, none⟩ = false := HBK.frozen 3; have e4 : w4.cell? ⟨wc.heap.size, 4, none⟩ = some (.slice none 0 0) := HBK.cell 4; have ef4 : w4.frozen? ⟨wc.heap.size, 4, none⟩ = false := HBK.frozen 4; have e5 : w4.cell? ⟨wc.heap.size, 5, none⟩ = some (.slice none 0 0) := HBK.cell 5; have ef5 : w4.frozen? ⟨wc.heap.size, 5, none⟩ = false := HBK.frozen 5; have HYV : Hid (VAt w4 (fun b => b ≠ wc.heap.size ∧ ((S b ∧ b < N) ∨ N + 2 ≤ b)) n' vy (dlT l U)) := Lib.hid (hvy.mono fun b hb hs => ⟨(by intro e; subst e; rcases hs with hs | hs; (have h9 := hs.2; have h8 := hs3.out; omega); simp at hs <;> omega), (by rcases hs with hs | hs; (first | exact .inl hs | exact hs.1); exact .inr (Nat.le_trans hs3.out (Nat.le_trans (Only.size (F := Nobody) (by repeat (first | with_reducible exact HOX.out | with_reducible exact Only.refl _ _ | with_reducible refine Only.drew ?_ | with_reducible refine Only.alloc ?_ _ | with_reducible refine Only.setCell ?_ (Or.inr ?_) _ | exact HN4.out | exact Nat.le_refl _))) hs)))⟩); have HBK := Lib.hid HBK) | (have HBK := Blk.new w4 25 #[.int .i64 0, .int .i64 0, .int .i64 0, .string ⟨#[]⟩, .slice none 0 0, .slice none 0 0]; have e0 : (w4.alloc (.cells #[.int .i64 0, .int .i64 0, .int .i64 0, .string ⟨#[]⟩, .slice none 0 0, .slice none 0 0] 25)).cell? ⟨w4.heap.size, 0, none⟩ = some (.int .i64 0) := HBK.cell 0; have ef0 : (w4.alloc (.cells #[.int .i64 0, .int .i64 0, .int .i64 0, .string ⟨#[]⟩, .slice none 0 0, .slice none 0 0] 25)).frozen? ⟨w4.heap.size, 0, none⟩ = false := HBK.frozen 0; have e1 : (w4.alloc (.cells #[.int .i64 0, .int .i64 0, .int .i64 0, .string ⟨#[]⟩, .slice none 0 0, .slice none 0 0] 25)).cell? ⟨w4.heap.size, 1, none⟩ = some (.int .i64 0) := HBK.cell 1; have ef1 : (w4.alloc (.cells #[.int .i64 0, .int .i64 0, .int .i64 0, .string ⟨#[]⟩, .slice none 0 0, .slice none 0 0] 25)).frozen? ⟨w4.heap.size, 1, none⟩ = false := HBK.frozen 1; have e2 : (w4.alloc (.cells #[.int .i64 0, .int .i64 0, .int .i64 0, .string ⟨#[]⟩, .slice none 0 0, .slice none 0 0] 25)).cell? ⟨w4.heap.size, 2, none⟩ = some (.int .i64 0) := HBK.cell 2; have ef2 : (w4.alloc (.cells #[.int .i64 0, .int .i64 0, .int .i64 0, .string ⟨#[]⟩, .slice none 0 0, .slice none 0 0] 25)).frozen? ⟨w4.heap.size, 2, none⟩ = false := HBK.frozen 2; have e3 : (w4.alloc (.cells #[.int .i64 0, .int .i64 0, .int .i64 0, .string ⟨#[]⟩, .slice none 0 0, .slice none 0 0] 25)).cell? ⟨w4.heap.size, 3, none⟩ = some (.string ⟨#[]⟩) := HBK.cell 3; have ef3 : (w4.alloc (.cells #[.int .i64 0, .int .i64 0, .int .i64 0, .string ⟨#[]⟩, .slice none 0 0, .slice none 0 0] 25)).frozen? ⟨w4.heap.size, 3, none⟩ = false := HBK.frozen 3; have e4 : (w4.alloc (.cells #[.int .i64 0, .int .i64 0, .int .i64 0, .string ⟨#[]⟩, .slice none 0 0, .slice none 0 0] 25)).cell? ⟨w4.heap.size, 4, none⟩ = some (.slice none 0 0) := HBK.cell 4; have ef4 : (w4.alloc (.cells #[.int .i64 0, .int .i64 0, .int .i64 0, .string ⟨#[]⟩, .slice none 0 0, .slice none 0 0] 25)).frozen? ⟨w4.heap.size, 4, none⟩ = false := HBK.frozen 4; have e5 : (w4.alloc (.cells #[.int .i64 0, .int .i64 0, .int .i64 0, .string ⟨#[]⟩, .slice none 0 0, .slice none 0 0] 25)).cell? ⟨w4.heap.size, 5, none⟩ = some (.slice none 0 0) := HBK.cell 5; have ef5 : (w4.alloc (.cells #[.int .i64 0, .int .i64 0, .int .i64 0, .string ⟨#[]⟩, .slice none 0 0, .slice none 0 0] 25)).frozen? ⟨w4.heap.size, 5, none⟩ = false := HBK.frozen 5; have HYV : Hid (VAt w4 (fun b => b ≠ w4.heap.size ∧ ((S b ∧ b < N) ∨ N + 2 ≤ b)) n' vy (dlT l U)) := Lib.hid (hvy.mono fun b hb hs => ⟨(by omega), (by rcases hs with hs | hs; (first | exact .inl hs | exact hs.1); exact .inr (Nat.le_trans hs3.out (Nat.le_trans (Only.size (F := Nobody) (by repeat (first | with_reducible exact HOX.out | with_reducible exact Only.refl _ _ | with_reducible refine Only.drew ?_ | with_reducible refine Only.alloc ?_ _ | with_reducible refine Only.setCell ?_ (Or.inr ?_) _ | exact HN4.out | exact Nat.le_refl _))) hs)))⟩); have HBK := Lib.hid HBK)); have HOX : Hid (Only Nobody wc w4) := Lib.hid (Only.trans (by repeat (first | with_reducible exact HOX.out | with_reducible exact Only.refl _ _ | with_reducible refine Only.drew ?_ | with_reducible refine Only.alloc ?_ _ | with_reducible refine Only.setCell ?_ (Or.inr ?_) _ | exact HN4.out | exact Nat.le_refl _)) ho4); have HN4 : Hid (wc.heap.size ≤ w4.heap.size) := Lib.hid HOX.out.size; clear hvy ho4))
      all_goals
        go_wp2_with fail
        go_meet
        refine ⟨vy, n', _, rfl, ?_, Lib.hid ((HYV.out.keep (F := fun b => b = _) ?_ (fun b hb e => hb.1 e)).mono (fun b _ hb => hb.2)), (by repeat (first | with_reducible exact HOX.out | with_reducible exact Only.refl _ _ | with_reducible refine Only.drew ?_ | with_reducible refine Only.alloc ?_ _ | with_reducible refine Only.setCell ?_ (Or.inr ?_) _ | exact HN4.out | exact Nat.le_refl _))⟩
        · first
            | with_reducible exact Blk.new _ _ _
            | exact (((((HBK.out.set_ 0 _).set_ 1 _).set_ 2 _).set_ 3 _).set_ 4 _).set_ 5 _
        · repeat (first | with_reducible exact Only.refl _ _ | with_reducible refine Only.drew ?_ | with_reducible refine Only.alloc ?_ _ | with_reducible refine Only.setCell ?_ (Or.inl ?_) _ | exact rfl)

    case rest =>
      obtain ⟨wb, HWB⟩ : ∃ wb, Hid (wb = wc) := ⟨_, Lib.hid rfl⟩
      obtain ⟨y, n5, Yb, rfl, hby, HYV, hox⟩ := hcut
      have HBY : Hid (∀ w', Only Nobody wc w' → Blk w' Yb 25 #[.int .i64 y.k, .int .i64 y.i, .int .i64 y.s, .string y.t, .slice y.la y.ln y.lc, .slice y.fa y.fn y.fc]) := Lib.hid fun w' h => h.blk hby (fun x => x)
      have HWC := Lib.hid (HWC.out.trans hox)
      have HOC := Lib.hid (HOC.out.trans hox)
      have hs3 : Hid (N + 2 ≤ wc.heap.size) := Lib.hid (Nat.le_trans hs3.out hox.size)
      have HVC : Hid (∀ w', Only Nobody wc w' → VAt w' (fun b => ((S b ∧ b < N) ∨ N + 2 ≤ b) ∧ b < wc.heap.size) (max n n5 + 1) v T) := Lib.hid fun w' h => (((vat_in4 (M := N + 2) (vat_in HV.out HN.out HOC.out)).le (by omega)).mono (fun b hb hs => ⟨hs, hb⟩)).same h
      have HYC : Hid (∀ w', Only Nobody wc w' → VAt w' (fun b => ((S b ∧ b < N) ∨ N + 2 ≤ b) ∧ b < wc.heap.size) (max n n5) y (dlT l U)) := Lib.hid fun w' h => (((HYV.out).le (by omega)).mono (fun b hb hs => ⟨hs, hb⟩)).same h
      have HSV : Hid (∀ w', Only Nobody wc w' → (w'.cell? ⟨N, 0, none⟩ = some (.int .i64 v.k) ∧ w'.cell? ⟨N, 1, none⟩ = some (.int .i64 v.i) ∧ w'.cell? ⟨N, 2, none⟩ = some (.int .i64 v.s) ∧ w'.cell? ⟨N, 3, none⟩ = some (.string v.t) ∧ w'.cell? ⟨N, 4, none⟩ = some (.slice v.la v.ln v.lc) ∧ w'.cell? ⟨N, 5, none⟩ = some (.slice v.fa v.fn v.fc)) ∧ (w'.cell? ⟨Yb, 0, none⟩ = some (.int .i64 y.k) ∧ w'.cell? ⟨Yb, 1, none⟩ = some (.int .i64 y.i) ∧ w'.cell? ⟨Yb, 2, none⟩ = some (.int .i64 y.s) ∧ w'.cell? ⟨Yb, 3, none⟩ = some (.string y.t) ∧ w'.cell? ⟨Yb, 4, none⟩ = some (.slice y.la y.ln y.lc) ∧ w'.cell? ⟨Yb, 5, none⟩ = some (.slice y.fa y.fn y.fc))) := Lib.hid fun w' ho => by
        have h0 := (HWC.out.trans ho).blk HB0.out (fun x => x)
        have h1 := HBY.out w' ho
        exact ⟨⟨h0.cell 0, h0.cell 1, h0.cell 2, h0.cell 3, h0.cell 4, h0.cell 5⟩, ⟨h1.cell 0, h1.cell 1, h1.cell 2, h1.cell 3, h1.cell 4, h1.cell 5⟩⟩
      have HOX := Lib.hid (Only.refl Nobody wc)
      have HN4 : Hid (wc.heap.size ≤ wc.heap.size) := Lib.hid (Nat.le_refl _)
      have HZ3 : Hid (∀ w', Only Nobody (wc.alloc (.cells #[.int .i64 0, .int .i64 0, .int .i64 0, .string ⟨#[]⟩, .slice none 0 0, .slice none 0 0] 25)) w' → Blk w' wc.heap.size 25 #[.int .i64 0, .int .i64 0, .int .i64 0, .string ⟨#[]⟩, .slice none 0 0, .slice none 0 0]) := Lib.hid fun w' h' => h'.blk (Blk.new wc _ _) (fun x => x)
      have HUSE : Hid (wc.heap.size ≤ wc.heap.size) := Lib.hid (Nat.le_refl _)
      have hsv := HSV.out wc HOX.out
      clear hox huc hby
      go_upto_region 6 with fail
      go_cut [8, 9] (fun yb eb wx => ∃ (vy : VC) (n' Yb : Nat), yb = .pointer (some ⟨Yb, 0, none⟩) ∧ eb = .int .i64 0 ∧ Blk wx Yb 25 #[.int .i64 vy.k, .int .i64 vy.i, .int .i64 vy.s, .string vy.t, .slice vy.la vy.ln vy.lc, .slice vy.fa vy.fn vy.fc] ∧ Hid (VAt wx (fun b => (S b ∧ b < N) ∨ N + 2 ≤ b) n' vy (replT T ⟨k, i, nm⟩ (dlT l U))) ∧ Only Nobody wc wx)
      case first =>
        go_region_held3 (fun w' => (w'.cell? ⟨N, 0, none⟩ = some (.int .i64 v.k) ∧ w'.cell? ⟨N, 1, none⟩ = some (.int .i64 v.i) ∧ w'.cell? ⟨N, 2, none⟩ = some (.int .i64 v.s) ∧ w'.cell? ⟨N, 3, none⟩ = some (.string v.t) ∧ w'.cell? ⟨N, 4, none⟩ = some (.slice v.la v.ln v.lc) ∧ w'.cell? ⟨N, 5, none⟩ = some (.slice v.fa v.fn v.fc)) ∧ (w'.cell? ⟨Yb, 0, none⟩ = some (.int .i64 y.k) ∧ w'.cell? ⟨Yb, 1, none⟩ = some (.int .i64 y.i) ∧ w'.cell? ⟨Yb, 2, none⟩ = some (.int .i64 y.s) ∧ w'.cell? ⟨Yb, 3, none⟩ = some (.string y.t) ∧ w'.cell? ⟨Yb, 4, none⟩ = some (.slice y.la y.ln y.lc) ∧ w'.cell? ⟨Yb, 5, none⟩ = some (.slice y.fa y.fn y.fc))) (exact HSV.out _ (by repeat (first | with_reducible exact HOX.out | with_reducible exact Only.refl _ _ | with_reducible refine Only.drew ?_ | with_reducible refine Only.alloc ?_ _ | with_reducible refine Only.setCell ?_ (Or.inr ?_) _ | exact HN4.out | exact Nat.le_refl _))) (first
          | (go_at_call 39; refine (rset1_any k i nm v y T (dlT l U) U rest (fun b => ((S b ∧ b < N) ∨ N + 2 ≤ b) ∧ b < wc.heap.size) (max n n5) c ad _ HVAL.out H3.out HAP.out HL.out hszT.out (HVC.out _ (by repeat (first | with_reducible exact HOX.out | with_reducible exact Only.refl _ _ | with_reducible refine Only.drew ?_ | with_reducible refine Only.alloc ?_ _ | with_reducible refine Only.setCell ?_ (Or.inr ?_) _ | exact HN4.out | exact Nat.le_refl _))) (HYC.out _ (by repeat (first | with_reducible exact HOX.out | with_reducible exact Only.refl _ _ | with_reducible refine Only.drew ?_ | with_reducible refine Only.alloc ?_ _ | with_reducible refine Only.setCell ?_ (Or.inr ?_) _ | exact HN4.out | exact Nat.le_refl _))) (HP1.out.same (HOC.out.trans (by repeat (first | with_reducible exact HOX.out | with_reducible exact Only.refl _ _ | with_reducible refine Only.drew ?_ | with_reducible refine Only.alloc ?_ _ | with_reducible refine Only.setCell ?_ (Or.inr ?_) _ | exact HN4.out | exact Nat.le_refl _)))) (by omega)).mono ?_; rintro e w4 ⟨⟨vy, rfl, _, hvy0⟩, ho4⟩; have hvy := hvy0 rfl; unfold retV; obtain ⟨n', HNN⟩ : ∃ n', Hid (n' = max n n5 + 1) := ⟨_, Lib.hid rfl⟩; rw [← HNN.out] at hvy; clear hvy0; (first | ((first | (with_reducible have HBK := HZ3.out w4 ho4) | (have HBK := HZ3.out w4 (Only.trans (Only.refl _ _).drew ho4))); have e0 : w4.cell? ⟨wc.heap.size, 0, none⟩ = some (.int .i64 0) := HBK.cell 0; have ef0 : w4.frozen? ⟨wc.heap.size, 0, none⟩ = false := HBK.frozen 0; have e1 : w4.cell? ⟨wc.heap.size, 1, none⟩ = some (.int .i64 0) := HBK.cell 1; have ef1 : w4.frozen? ⟨wc.heap.size, 1, none⟩ = false := HBK.frozen 1; have e2 : w4.cell? ⟨wc.heap.size, 2, none⟩ = some (.int .i64 0) := HBK.cell 2; have ef2 : w4.frozen? ⟨wc.heap.size, 2, none⟩ = false := HBK.frozen 2; have e3 : w4.cell? ⟨wc.heap.size, 3, none⟩ = some (.string ⟨#[]⟩) := HBK.cell 3; have ef3 : w4.frozen? ⟨wc.heap.size, 3, none⟩ = false := HBK.frozen 3; have e4 : w4.cell? ⟨wc.heap.size, 4, none⟩ = some (.slice none 0 0) := HBK.cell 4; have ef4 : w4.frozen? ⟨wc.heap.size, 4, none⟩ = false := HBK.frozen 4; have e5 : w4.cell? ⟨wc.heap.size, 5, none⟩ = some (.slice none 0 0) := HBK.cell 5; have ef5 : w4.frozen? ⟨wc.heap.size, 5, none⟩ = false := HBK.frozen 5; have HYV : Hid (VAt w4 (fun b => b ≠ wc.heap.size ∧ ((S b ∧ b < N) ∨ N + 2 ≤ b)) n' vy (replT T ⟨k, i, nm⟩ (dlT l U))) := Lib.hid (hvy.mono fun b hb hs => ⟨(by intro e; subst e; rcases hs with hs | hs; (have h9 := hs.2; have h8 := hs3.out; omega); simp at hs <;> omega), (by rcases hs with hs | hs; (first | exact .inl hs | exact hs.1); exact .inr (Nat.le_trans hs3.out (Nat.le_trans (Only.size (F := Nobody) (by repeat (first | with_reducible exact HOX.out | with_reducible exact Only.refl _ _ | with_reducible refine Only.drew ?_ | with_reducible refine Only.alloc ?_ _ | with_reducible refine Only.setCell ?_ (Or.inr ?_) _ | exact HN4.out | exact Nat.le_refl _))) hs)))⟩); have HBK := Lib.hid HBK) | (have HBK := Blk.new w4 25 #[.int .i64 0, .int .i64 0, .int .i64 0, .string ⟨#[]⟩, .slice none 0 0, .slice none 0 0]; have e0 : (w4.alloc (.cells #[.int .i64 0, .int .i64 0, .int .i64 0, .string ⟨#[]⟩, .slice none 0 0, .slice none 0 0] 25)).cell? ⟨w4.heap.size, 0, none⟩ = some (.int .i64 0) := HBK.cell 0; have ef0 : (w4.alloc (.cells #[.int .i64 0, .int .i64 0, .int .i64 0, .string ⟨#[]⟩, .slice none 0 0, .slice none 0 0] 25)).frozen? ⟨w4.heap.size, 0, none⟩ = false := HBK.frozen 0; have e1 : (w4.alloc (.cells #[.int .i64 0, .int .i64 0, .int .i64 0, .string ⟨#[]⟩, .slice none 0 0, .slice none 0 0] 25)).cell? ⟨w4.heap.size, 1, none⟩ = some (.int .i64 0) := HBK.cell 1; have ef1 : (w4.alloc (.cells #[.int .i64 0, .int .i64 0, .int .i64 0, .string ⟨#[]⟩, .slice none 0 0, .slice none 0 0] 25)).frozen? ⟨w4.heap.size, 1, none⟩ = false := HBK.frozen 1; have e2 : (w4.alloc (.cells #[.int .i64 0, .int .i64 0, .int .i64 0, .string ⟨#[]⟩, .slice none 0 0, .slice none 0 0] 25)).cell? ⟨w4.heap.size, 2, none⟩ = some (.int .i64 0) := HBK.cell 2; have ef2 : (w4.alloc (.cells #[.int .i64 0, .int .i64 0, .int .i64 0, .string ⟨#[]⟩, .slice none 0 0, .slice none 0 0] 25)).frozen? ⟨w4.heap.size, 2, none⟩ = false := HBK.frozen 2; have e3 : (w4.alloc (.cells #[.int .i64 0, .int .i64 0, .int .i64 0, .string ⟨#[]⟩, .slice none 0 0, .slice none 0 0] 25)).cell? ⟨w4.heap.size, 3, none⟩ = some (.string ⟨#[]⟩) := HBK.cell 3; have ef3 : (w4.alloc (.cells #[.int .i64 0, .int .i64 0, .int .i64 0, .string ⟨#[]⟩, .slice none 0 0, .slice none 0 0] 25)).frozen? ⟨w4.heap.size, 3, none⟩ = false := HBK.frozen 3; have e4 : (w4.alloc (.cells #[.int .i64 0, .int .i64 0, .int .i64 0, .string ⟨#[]⟩, .slice none 0 0, .slice none 0 0] 25)).cell? ⟨w4.heap.size, 4, none⟩ = some (.slice none 0 0) := HBK.cell 4; have ef4 : (w4.alloc (.cells #[.int .i64 0, .int .i64 0, .int .i64 0, .string ⟨#[]⟩, .slice none 0 0, .slice none 0 0] 25)).frozen? ⟨w4.heap.size, 4, none⟩ = false := HBK.frozen 4; have e5 : (w4.alloc (.cells #[.int .i64 0, .int .i64 0, .int .i64 0, .string ⟨#[]⟩, .slice none 0 0, .slice none 0 0] 25)).cell? ⟨w4.heap.size, 5, none⟩ = some (.slice none 0 0) := HBK.cell 5; have ef5 : (w4.alloc (.cells #[.int .i64 0, .int .i64 0, .int .i64 0, .string ⟨#[]⟩, .slice none 0 0, .slice none 0 0] 25)).frozen? ⟨w4.heap.size, 5, none⟩ = false := HBK.frozen 5; have HYV : Hid (VAt w4 (fun b => b ≠ w4.heap.size ∧ ((S b ∧ b < N) ∨ N + 2 ≤ b)) n' vy (replT T ⟨k, i, nm⟩ (dlT l U))) := Lib.hid (hvy.mono fun b hb hs => ⟨(by omega), (by rcases hs with hs | hs; (first | exact .inl hs | exact hs.1); exact .inr (Nat.le_trans hs3.out (Nat.le_trans (Only.size (F := Nobody) (by repeat (first | with_reducible exact HOX.out | with_reducible exact Only.refl _ _ | with_reducible refine Only.drew ?_ | with_reducible refine Only.alloc ?_ _ | with_reducible refine Only.setCell ?_ (Or.inr ?_) _ | exact HN4.out | exact Nat.le_refl _))) hs)))⟩); have HBK := Lib.hid HBK)); have HOX : Hid (Only Nobody wc w4) := Lib.hid (Only.trans (by repeat (first | with_reducible exact HOX.out | with_reducible exact Only.refl _ _ | with_reducible refine Only.drew ?_ | with_reducible refine Only.alloc ?_ _ | with_reducible refine Only.setCell ?_ (Or.inr ?_) _ | exact HN4.out | exact Nat.le_refl _)) ho4); have HN4 : Hid (wc.heap.size ≤ w4.heap.size) := Lib.hid HOX.out.size; clear hvy ho4))
        all_goals
          go_wp2_with fail
          go_meet
          refine ⟨vy, n', _, rfl, rfl, ?_, Lib.hid ((HYV.out.keep (F := fun b => b = _) ?_ (fun b hb e => hb.1 e)).mono (fun b _ hb => hb.2)), (by repeat (first | with_reducible exact HOX.out | with_reducible exact Only.refl _ _ | with_reducible refine Only.drew ?_ | with_reducible refine Only.alloc ?_ _ | with_reducible refine Only.setCell ?_ (Or.inr ?_) _ | exact HN4.out | exact Nat.le_refl _))⟩
          · first
              | with_reducible exact Blk.new _ _ _
              | exact (((((HBK.out.set_ 0 _).set_ 1 _).set_ 2 _).set_ 3 _).set_ 4 _).set_ 5 _
          · repeat (first | with_reducible exact Only.refl _ _ | with_reducible refine Only.drew ?_ | with_reducible refine Only.alloc ?_ _ | with_reducible refine Only.setCell ?_ (Or.inl ?_) _ | exact rfl)

      case rest =>
        obtain ⟨z, nz, Zb, rfl, rfl, hbz, HZV, hox⟩ := hcut
        have HRR := Lib.hid (Only.refl Nobody wc)
        have HWZ := Lib.hid (HWC.out.trans hox)
        have HOZ := Lib.hid (HOC.out.trans hox)
        have HBR : Hid (Blk wc (N + 1) 25 #[.int .i64 0, .int .i64 0, .int .i64 0, .string ⟨#[]⟩, .slice none 0 0, .slice none 0 0]) := Lib.hid (HWZ.out.blk HB1.out (fun x => x))
        have HPOST : Hid (∀ wE, Only (fun b => b = N + 1) wc wE → RDelPost S (⟨k, i, nm⟩ :: l) T w (.returned (.agg #[.int .i64 z.k, .int .i64 z.i, .int .i64 z.s, .string z.t, .slice z.la z.ln z.lc, .slice z.fa z.fn z.fc])) wE) := Lib.hid fun wE hE => ⟨z, nz, rfl, by
          rw [HDT.out]
          exact (HZV.out.keep hE (fun b hb e => by rcases hb with hb | hb; (have h7 := hb.2; omega); omega)).mono (fun b _ hb => by rcases hb with hb | hb; exact .inl hb.1; exact .inr (by rw [HN.out]; omega)), HOZ.out.trans_more (hE.mono (fun b e => .inr (by rw [HN.out]; omega)))⟩
        have r0 : wc.cell? ⟨N + 1, 0, none⟩ = some (.int .i64 0) := (HBR.out).cell 0
        have rf0 : wc.frozen? ⟨N + 1, 0, none⟩ = false := (HBR.out).frozen 0
        have r1 : wc.cell? ⟨N + 1, 1, none⟩ = some (.int .i64 0) := (HBR.out).cell 1
        have rf1 : wc.frozen? ⟨N + 1, 1, none⟩ = false := (HBR.out).frozen 1
        have r2 : wc.cell? ⟨N + 1, 2, none⟩ = some (.int .i64 0) := (HBR.out).cell 2
        have rf2 : wc.frozen? ⟨N + 1, 2, none⟩ = false := (HBR.out).frozen 2
        have r3 : wc.cell? ⟨N + 1, 3, none⟩ = some (.string ⟨#[]⟩) := (HBR.out).cell 3
        have rf3 : wc.frozen? ⟨N + 1, 3, none⟩ = false := (HBR.out).frozen 3
        have r4 : wc.cell? ⟨N + 1, 4, none⟩ = some (.slice none 0 0) := (HBR.out).cell 4
        have rf4 : wc.frozen? ⟨N + 1, 4, none⟩ = false := (HBR.out).frozen 4
        have r5 : wc.cell? ⟨N + 1, 5, none⟩ = some (.slice none 0 0) := (HBR.out).cell 5
        have rf5 : wc.frozen? ⟨N + 1, 5, none⟩ = false := (HBR.out).frozen 5
        have z0 : wc.cell? ⟨Zb, 0, none⟩ = some (.int .i64 z.k) := (hbz).cell 0
        have z1 : wc.cell? ⟨Zb, 1, none⟩ = some (.int .i64 z.i) := (hbz).cell 1
        have z2 : wc.cell? ⟨Zb, 2, none⟩ = some (.int .i64 z.s) := (hbz).cell 2
        have z3 : wc.cell? ⟨Zb, 3, none⟩ = some (.string z.t) := (hbz).cell 3
        have z4 : wc.cell? ⟨Zb, 4, none⟩ = some (.slice z.la z.ln z.lc) := (hbz).cell 4
        have z5 : wc.cell? ⟨Zb, 5, none⟩ = some (.slice z.fa z.fn z.fc) := (hbz).cell 5
        clear hsv hox
        go_wp2_with fail
        exact bodyPost_ret (v := .agg #[.int .i64 z.k, .int .i64 z.i, .int .i64 z.s, .string z.t, .slice z.la z.ln z.lc, .slice z.fa z.fn z.fc]) (by simp [results, Tryz.results13, go_sem, r0, r1, r2, r3, r4, r5]) rfl (HPOST.out _ (by repeat (first | with_reducible exact Only.refl _ _ | with_reducible refine Only.drew ?_ | with_reducible refine Only.alloc ?_ _ | with_reducible refine Only.setCell ?_ (Or.inl ?_) _ | exact rfl | exact Or.inl rfl | exact Or.inr (Or.inl rfl) | exact Or.inr (Or.inr rfl) | exact Or.inr rfl)))
theorem rdelete_any : ∀ (L : List Pt) (T : VT), L ≠ [] → L.all validB = true → everyL L = false → (∀ p, L.getLast? = some p → p.kind ≠ 4) → RdAt L T
  | [], _, h, _, _, _ => absurd rfl h
  | ⟨k, i, nm⟩ :: l, T, _, hv, he, h4 => by
    intro v S n A m c w hsz hm hmc hdl h hp
    have hv' : validB ⟨k, i, nm⟩ = true ∧ l.all validB = true := by simpa using hv
    have he' : ((k == 3) = false) ∧ everyL l = false := by simpa [everyL] using he
    have hap : appT ⟨k, i, nm⟩ T = true := by
      cases ha : appT ⟨k, i, nm⟩ T with
      | true => rfl
      | false => rw [dl_no ha] at hdl; cases hdl
    cases hL : leadL ⟨k, i, nm⟩ T with
    | nil => rw [dl_empty hap hL] at hdl; cases hdl
    | cons U rest =>
      by_cases hl : l = []
      · subst hl
        have hm1 : m = 1 := by rw [← hp.len]; rfl
        subst hm1
        have hk : k = 1 ∨ k = 2 := by
          have h4' : k ≠ 4 := h4 ⟨k, i, nm⟩ rfl
          have h3' : ¬ k = 3 := by simpa using he'.1
          by_cases k1 : k = 1
          · exact .inl k1
          · by_cases k2 : k = 2
            · exact .inr k2
            · have := hv'.1
              simp [validB, k1, k2, h3', h4'] at this
        obtain ⟨ad, rfl⟩ := hp.some_ (by omega)
        refine (rdel1_any k i nm v T U rest S n c ad w hk hv'.1 hap hL (by omega) h.up hp).mono ?_
        rintro e w' ⟨v', rfl, hv1, ho⟩
        exact ⟨v', n + 1, rfl, by rw [(dl_last hap (by rw [hL]; simp)).2]; exact hv1, ho⟩
      · exact rdel_walk k i nm l T U rest hv'.1 he'.1 hap hL hl (rdelete_any l U hl hv'.2 he'.2 (fun p hp => h4 p (by rw [last_tail hl]; exact hp))) v S n A m c w hsz hm hmc hdl h hp

end Go.Proofs.YtdccckoelnnnoaaGreatDoor
