/- Path: the law PathGets. -/
import Derived.Test.YtdccckoelnnnoaaDoorFiU
import Derived.Test.YtdccckoelnnnoaaDoorFiS
import Derived.Test.YtdccckoelnnnoaaDoorVaE
import Derived.Test.YtdccckoelnnnoaaDoorKnA
import Derived.Test.YtdccckoelnnnoaaDoorPaL2

namespace Go.Proofs.YtdccckoelnnnoaaDoor
open Go.RowKit
attribute [local go_sem ↓] Go.wp_at_zero Go.wp_at_succ

theorem findT_size : ∀ {l : List Pt} {Ts R : List VT}, findT Ts l = some R → sizeL R ≤ sizeL Ts
  | [], Ts, R, h => by cases h; exact Nat.le_refl _
  | p :: l, Ts, R, h => by
    unfold findT at h
    split at h
    · exact Nat.le_trans (findT_size h) (leads_size p Ts)
    · cases h
theorem findR_size (T : VT) (L : List Pt) : sizeL (findR T L) ≤ T.size := by
  unfold findR
  split
  · cases h : findT [T] L with
    | none => simp [sizeL]
    | some R => have := findT_size h; simpa [sizeL] using this
  · simp [sizeL]
theorem getV_size (T : VT) (L : List Pt) : (getV T L).size ≤ T.size + 1 := by
  have h := findR_size T L
  unfold getV
  split
  · split
    · simp only [VT.size, sizeF]; omega
    · cases hr : findR T L with
      | nil => simp [VT.zero, VT.size, sizeL, sizeF]
      | cons a l => rw [hr] at h; simp only [sizeL] at h; simp; omega
  · simp [VT.zero, VT.size, sizeL, sizeF]
theorem findR_err {T : VT} {L : List Pt} (h : findE T L ≠ 0) : findR T L = [] := by
  unfold findE at h
  unfold findR
  split
  · rename_i hc
    rw [if_pos hc] at h
    cases hf : findT [T] L with
    | none => rfl
    | some R =>
      rw [hf] at h
      simp only [] at h
      split at h
      · rename_i hh; exact hh.1
      · exact absurd rfl h
  · rfl
theorem find_ok {T : VT} {L : List Pt} (h : findE T L = 0) : okL L = true ∧ findT [T] L = some (findR T L) := by
  by_cases hok : okL L = true
  · refine ⟨hok, ?_⟩
    unfold findE at h
    unfold findR
    rw [chkE_ok hok] at h ⊢
    rw [if_pos rfl] at h ⊢
    cases hf : findT [T] L with
    | none => rw [hf] at h; simp at h
    | some R => rfl
  · unfold findE at h; rw [chkE_no hok] at h; simp at h
set_option maxRecDepth 100000 in
set_option maxHeartbeats 16000000 in
theorem lawGets (v : VC) (T : VT) (S : Nat → Prop) (n : Nat) (A : Option Addr) (m c : Nat) (L : List Pt) {w : World} (hsz : T.size ≤ 1000000) (h : VAt w S n v T) (ha : Pts w A m L) (hs : Std w) : Calls Tryd.prog 4 #[.agg #[.int .i64 v.k, .int .i64 v.i, .int .i64 v.s, .string v.t, .slice v.la v.ln v.lc, .slice v.fa v.fn v.fc], .slice A m c] w fun e w' => e = .returned (.bool true) ∧ Only Nobody w w' := by
  have HV := Lib.hid h
  have HP := Lib.hid ha
  have HS := Lib.hid hs
  have HSZ := Lib.hid hsz
  have HOA : Hid (Only Nobody w (w.alloc (.cells #[.int .i64 v.k, .int .i64 v.i, .int .i64 v.s, .string v.t, .slice v.la v.ln v.lc, .slice v.fa v.fn v.fc] 25))) := Lib.hid ((Only.refl _ _).alloc _)
  have HBV : Hid (∀ w', Only Nobody (w.alloc (.cells #[.int .i64 v.k, .int .i64 v.i, .int .i64 v.s, .string v.t, .slice v.la v.ln v.lc, .slice v.fa v.fn v.fc] 25)) w' → w'.cell? ⟨w.heap.size, 0, none⟩ = some (.int .i64 v.k) ∧ w'.cell? ⟨w.heap.size, 1, none⟩ = some (.int .i64 v.i) ∧ w'.cell? ⟨w.heap.size, 2, none⟩ = some (.int .i64 v.s) ∧ w'.cell? ⟨w.heap.size, 3, none⟩ = some (.string v.t) ∧ w'.cell? ⟨w.heap.size, 4, none⟩ = some (.slice v.la v.ln v.lc) ∧ w'.cell? ⟨w.heap.size, 5, none⟩ = some (.slice v.fa v.fn v.fc)) := Lib.hid fun w' h' => by
    have hb := h'.blk (Blk.new w 25 #[.int .i64 v.k, .int .i64 v.i, .int .i64 v.s, .string v.t, .slice v.la v.ln v.lc, .slice v.fa v.fn v.fc]) (fun x => x)
    exact ⟨hb.cell 0, hb.cell 1, hb.cell 2, hb.cell 3, hb.cell 4, hb.cell 5⟩
  clear h ha hs hsz
  go_enter Tryd.func4, Tryd.ntmps4
  go_wp2_with fail
  refine (known_any _ (HS.out.same HOA.out)).mono ?_
  rintro e w1 ⟨rfl, ho⟩
  have HX1 := Lib.hid ho
  have HO1 := Lib.hid (HOA.out.trans ho)
  clear ho
  obtain ⟨b0, b1, b2, b3, b4, b5⟩ := HBV.out w1 HX1.out
  go_wp2_with fail
  refine (small_any v T S n _ HSZ.out (HV.out.same HO1.out)).mono ?_
  rintro e w2 ⟨rfl, ho⟩
  have HX2 := Lib.hid (HX1.out.trans ho)
  have HO2 := Lib.hid (HO1.out.trans ho)
  clear ho b0 b1 b2 b3 b4 b5
  cases hsm : smallT T with
  | false =>
    go_wp2_with fail
    refine (known_any _ (HS.out.same HO2.out)).mono ?_
    rintro e w3 ⟨rfl, ho⟩
    have HO3 := Lib.hid (HO2.out.trans ho)
    clear ho
    go_wp2_with fail
    go_ret
    exact ⟨rfl, HO3.out⟩
  | true =>
    clear hsm
    by_cases hm20 : 20 < m
    · have hmI : (20 : Int) < (m : Int) := by omega
      go_wp2_with fail
      refine (known_any _ (HS.out.same HO2.out)).mono ?_
      rintro e w3 ⟨rfl, ho⟩
      have HO3 := Lib.hid (HO2.out.trans ho)
      clear ho
      go_wp2_with fail
      go_ret
      exact ⟨rfl, HO3.out⟩
    · have hmI : ¬ (20 : Int) < (m : Int) := by omega
      have hm : m ≤ 1000 := by omega
      have HOB : Hid (Only Nobody w w2) := Lib.hid (HO2.out)
      have HXB : Hid (Only Nobody (w.alloc (.cells #[.int .i64 v.k, .int .i64 v.i, .int .i64 v.s, .string v.t, .slice v.la v.ln v.lc, .slice v.fa v.fn v.fc] 25)) w2) := Lib.hid (HX2.out)
      have HOX : Hid (Only Nobody w2 w2) := Lib.hid (Only.refl _ _)
      have HN2 : Hid (w2.heap.size ≤ w2.heap.size) := Lib.hid (Nat.le_refl _)
      have HZ2 : Hid (∀ w', Only Nobody (w2.alloc (.cells #[.int .i64 0, .int .i64 0, .int .i64 0, .string ⟨#[]⟩, .slice none 0 0, .slice none 0 0] 25)) w' → Blk w' w2.heap.size 25 #[.int .i64 0, .int .i64 0, .int .i64 0, .string ⟨#[]⟩, .slice none 0 0, .slice none 0 0]) := Lib.hid fun w' h' => h'.blk (Blk.new w2 _ _) (fun x => x)
      obtain ⟨b0, b1, b2, b3, b4, b5⟩ := HBV.out w2 HXB.out
      go_upto_region 3 with fail
      go_cut [5, 6] (fun x e wx => ∃ (vx : VC) (Y : Nat), x = .pointer (some ⟨Y, 0, none⟩) ∧ e = .int .i64 (findE T L) ∧ Blk wx Y 25 #[.int .i64 vx.k, .int .i64 vx.i, .int .i64 vx.s, .string vx.t, .slice vx.la vx.ln vx.lc, .slice vx.fa vx.fn vx.fc] ∧ VAt wx Any_ (n + 1) vx (getV T L) ∧ Only Nobody w2 wx)
      case first =>
        go_region_held3 (fun w' => w'.cell? ⟨w.heap.size, 0, none⟩ = some (.int .i64 v.k) ∧ w'.cell? ⟨w.heap.size, 1, none⟩ = some (.int .i64 v.i) ∧ w'.cell? ⟨w.heap.size, 2, none⟩ = some (.int .i64 v.s) ∧ w'.cell? ⟨w.heap.size, 3, none⟩ = some (.string v.t) ∧ w'.cell? ⟨w.heap.size, 4, none⟩ = some (.slice v.la v.ln v.lc) ∧ w'.cell? ⟨w.heap.size, 5, none⟩ = some (.slice v.fa v.fn v.fc)) (exact HBV.out _ (HXB.out.trans (by repeat (first | with_reducible exact HOX.out | with_reducible exact Only.refl _ _ | with_reducible refine Only.drew ?_ | with_reducible refine Only.alloc ?_ _ | with_reducible refine Only.setCell ?_ (Or.inr ?_) _ | exact HN4.out | exact HN3.out | exact HN2.out)))) (first
          | (go_at_call 11; refine (own_pts A m c L _ hm (HP.out.same (HOB.out.trans (by repeat (first | with_reducible exact HOX.out | with_reducible exact Only.refl _ _ | with_reducible refine Only.drew ?_ | with_reducible refine Only.alloc ?_ _ | with_reducible refine Only.setCell ?_ (Or.inr ?_) _ | exact HN4.out | exact HN3.out | exact HN2.out))))).mono ?_; rintro e w3 ⟨Y3, s3, rfl, hp3, ho3⟩; have HP3 := Lib.hid hp3; have HZ3 : Hid (∀ w', Only Nobody (w3.alloc (.cells #[.int .i64 0, .int .i64 0, .int .i64 0, .string ⟨#[]⟩, .slice none 0 0, .slice none 0 0] 25)) w' → Blk w' w3.heap.size 25 #[.int .i64 0, .int .i64 0, .int .i64 0, .string ⟨#[]⟩, .slice none 0 0, .slice none 0 0]) := Lib.hid fun w' h' => h'.blk (Blk.new w3 _ _) (fun x => x); (first | (with_reducible have HBQ := Lib.hid (HZ2.out w3 ho3)) | (have HBQ := Lib.hid (HZ2.out w3 (Only.trans (Only.refl _ _).drew ho3))) | skip); have HOX : Hid (Only Nobody w2 w3) := Lib.hid (Only.trans (by repeat (first | with_reducible exact HOX.out | with_reducible exact Only.refl _ _ | with_reducible refine Only.drew ?_ | with_reducible refine Only.alloc ?_ _ | with_reducible refine Only.setCell ?_ (Or.inr ?_) _ | exact HN4.out | exact HN3.out | exact HN2.out)) ho3); have HN3 : Hid (w2.heap.size ≤ w3.heap.size) := Lib.hid HOX.out.size; clear hp3 ho3)
          | (go_at_call 13; refine (get_any v T S n Y3 m s3 L _ HSZ.out (HV.out.same (HOB.out.trans (by repeat (first | with_reducible exact HOX.out | with_reducible exact Only.refl _ _ | with_reducible refine Only.drew ?_ | with_reducible refine Only.alloc ?_ _ | with_reducible refine Only.setCell ?_ (Or.inr ?_) _ | exact HN4.out | exact HN3.out | exact HN2.out)))) (HP3.out.same (by repeat (first | with_reducible exact Only.refl _ _ | with_reducible refine Only.drew ?_ | with_reducible refine Only.alloc ?_ _))) hm (HS.out.same (HOB.out.trans (by repeat (first | with_reducible exact HOX.out | with_reducible exact Only.refl _ _ | with_reducible refine Only.drew ?_ | with_reducible refine Only.alloc ?_ _ | with_reducible refine Only.setCell ?_ (Or.inr ?_) _ | exact HN4.out | exact HN3.out | exact HN2.out)))).tab).mono ?_; rintro e w4 ⟨vx, rfl, hvx, ho4⟩; (first | ((with_reducible have HBK := Lib.hid (HZ3.out w4 ho4)); have r0 : w4.cell? ⟨w3.heap.size, 0, none⟩ = some (.int .i64 0) := HBK.out.cell 0; have f0 : w4.frozen? ⟨w3.heap.size, 0, none⟩ = false := HBK.out.frozen 0; have r1 : w4.cell? ⟨w3.heap.size, 1, none⟩ = some (.int .i64 0) := HBK.out.cell 1; have f1 : w4.frozen? ⟨w3.heap.size, 1, none⟩ = false := HBK.out.frozen 1; have r2 : w4.cell? ⟨w3.heap.size, 2, none⟩ = some (.int .i64 0) := HBK.out.cell 2; have f2 : w4.frozen? ⟨w3.heap.size, 2, none⟩ = false := HBK.out.frozen 2; have r3 : w4.cell? ⟨w3.heap.size, 3, none⟩ = some (.string ⟨#[]⟩) := HBK.out.cell 3; have f3 : w4.frozen? ⟨w3.heap.size, 3, none⟩ = false := HBK.out.frozen 3; have r4 : w4.cell? ⟨w3.heap.size, 4, none⟩ = some (.slice none 0 0) := HBK.out.cell 4; have f4 : w4.frozen? ⟨w3.heap.size, 4, none⟩ = false := HBK.out.frozen 4; have r5 : w4.cell? ⟨w3.heap.size, 5, none⟩ = some (.slice none 0 0) := HBK.out.cell 5; have f5 : w4.frozen? ⟨w3.heap.size, 5, none⟩ = false := HBK.out.frozen 5; have HYV : Hid (VAt w4 (fun b => b ≠ w3.heap.size) (n + 1) vx _) := Lib.hid (hvx.mono fun b hb hs => (by intro e; subst e; simp at hs <;> omega))) | (have HBK := Lib.hid (ho4.blk HBQ.out (fun x => x)); have r0 : w4.cell? ⟨w2.heap.size, 0, none⟩ = some (.int .i64 0) := HBK.out.cell 0; have f0 : w4.frozen? ⟨w2.heap.size, 0, none⟩ = false := HBK.out.frozen 0; have r1 : w4.cell? ⟨w2.heap.size, 1, none⟩ = some (.int .i64 0) := HBK.out.cell 1; have f1 : w4.frozen? ⟨w2.heap.size, 1, none⟩ = false := HBK.out.frozen 1; have r2 : w4.cell? ⟨w2.heap.size, 2, none⟩ = some (.int .i64 0) := HBK.out.cell 2; have f2 : w4.frozen? ⟨w2.heap.size, 2, none⟩ = false := HBK.out.frozen 2; have r3 : w4.cell? ⟨w2.heap.size, 3, none⟩ = some (.string ⟨#[]⟩) := HBK.out.cell 3; have f3 : w4.frozen? ⟨w2.heap.size, 3, none⟩ = false := HBK.out.frozen 3; have r4 : w4.cell? ⟨w2.heap.size, 4, none⟩ = some (.slice none 0 0) := HBK.out.cell 4; have f4 : w4.frozen? ⟨w2.heap.size, 4, none⟩ = false := HBK.out.frozen 4; have r5 : w4.cell? ⟨w2.heap.size, 5, none⟩ = some (.slice none 0 0) := HBK.out.cell 5; have f5 : w4.frozen? ⟨w2.heap.size, 5, none⟩ = false := HBK.out.frozen 5; have HYV : Hid (VAt w4 (fun b => b ≠ w2.heap.size) (n + 1) vx _) := Lib.hid (hvx.mono fun b hb hs => (by intro e; subst e; have := HBQ.out.lt; omega))) | (have HBK := Lib.hid (Blk.new w4 25 #[.int .i64 0, .int .i64 0, .int .i64 0, .string ⟨#[]⟩, .slice none 0 0, .slice none 0 0]); have r0 : (w4.alloc (.cells #[.int .i64 0, .int .i64 0, .int .i64 0, .string ⟨#[]⟩, .slice none 0 0, .slice none 0 0] 25)).cell? ⟨w4.heap.size, 0, none⟩ = some (.int .i64 0) := HBK.out.cell 0; have f0 : (w4.alloc (.cells #[.int .i64 0, .int .i64 0, .int .i64 0, .string ⟨#[]⟩, .slice none 0 0, .slice none 0 0] 25)).frozen? ⟨w4.heap.size, 0, none⟩ = false := HBK.out.frozen 0; have r1 : (w4.alloc (.cells #[.int .i64 0, .int .i64 0, .int .i64 0, .string ⟨#[]⟩, .slice none 0 0, .slice none 0 0] 25)).cell? ⟨w4.heap.size, 1, none⟩ = some (.int .i64 0) := HBK.out.cell 1; have f1 : (w4.alloc (.cells #[.int .i64 0, .int .i64 0, .int .i64 0, .string ⟨#[]⟩, .slice none 0 0, .slice none 0 0] 25)).frozen? ⟨w4.heap.size, 1, none⟩ = false := HBK.out.frozen 1; have r2 : (w4.alloc (.cells #[.int .i64 0, .int .i64 0, .int .i64 0, .string ⟨#[]⟩, .slice none 0 0, .slice none 0 0] 25)).cell? ⟨w4.heap.size, 2, none⟩ = some (.int .i64 0) := HBK.out.cell 2; have f2 : (w4.alloc (.cells #[.int .i64 0, .int .i64 0, .int .i64 0, .string ⟨#[]⟩, .slice none 0 0, .slice none 0 0] 25)).frozen? ⟨w4.heap.size, 2, none⟩ = false := HBK.out.frozen 2; have r3 : (w4.alloc (.cells #[.int .i64 0, .int .i64 0, .int .i64 0, .string ⟨#[]⟩, .slice none 0 0, .slice none 0 0] 25)).cell? ⟨w4.heap.size, 3, none⟩ = some (.string ⟨#[]⟩) := HBK.out.cell 3; have f3 : (w4.alloc (.cells #[.int .i64 0, .int .i64 0, .int .i64 0, .string ⟨#[]⟩, .slice none 0 0, .slice none 0 0] 25)).frozen? ⟨w4.heap.size, 3, none⟩ = false := HBK.out.frozen 3; have r4 : (w4.alloc (.cells #[.int .i64 0, .int .i64 0, .int .i64 0, .string ⟨#[]⟩, .slice none 0 0, .slice none 0 0] 25)).cell? ⟨w4.heap.size, 4, none⟩ = some (.slice none 0 0) := HBK.out.cell 4; have f4 : (w4.alloc (.cells #[.int .i64 0, .int .i64 0, .int .i64 0, .string ⟨#[]⟩, .slice none 0 0, .slice none 0 0] 25)).frozen? ⟨w4.heap.size, 4, none⟩ = false := HBK.out.frozen 4; have r5 : (w4.alloc (.cells #[.int .i64 0, .int .i64 0, .int .i64 0, .string ⟨#[]⟩, .slice none 0 0, .slice none 0 0] 25)).cell? ⟨w4.heap.size, 5, none⟩ = some (.slice none 0 0) := HBK.out.cell 5; have f5 : (w4.alloc (.cells #[.int .i64 0, .int .i64 0, .int .i64 0, .string ⟨#[]⟩, .slice none 0 0, .slice none 0 0] 25)).frozen? ⟨w4.heap.size, 5, none⟩ = false := HBK.out.frozen 5; have HYV : Hid (VAt w4 (fun b => b ≠ w4.heap.size) (n + 1) vx _) := Lib.hid (hvx.mono fun b hb hs => (by omega)))); have HOX : Hid (Only Nobody w2 w4) := Lib.hid (Only.trans (by repeat (first | with_reducible exact HOX.out | with_reducible exact Only.refl _ _ | with_reducible refine Only.drew ?_ | with_reducible refine Only.alloc ?_ _ | with_reducible refine Only.setCell ?_ (Or.inr ?_) _ | exact HN4.out | exact HN3.out | exact HN2.out)) ho4); have HN4 : Hid (w2.heap.size ≤ w4.heap.size) := Lib.hid HOX.out.size; clear hvx ho4))
        all_goals
          go_wp2_with fail
          go_meet
          refine ⟨vx, _, rfl, rfl, ?_, ?_, ?_⟩
          · first
              | with_reducible exact Blk.new _ _ _
              | exact (((((HBK.out.set_ 0 _).set_ 1 _).set_ 2 _).set_ 3 _).set_ 4 _).set_ 5 _
          · refine VAt.any (VAt.keep HYV.out ?_ (fun b hb e => hb e))
            repeat (first | with_reducible exact Only.refl _ _ | with_reducible refine Only.drew ?_ | with_reducible refine Only.alloc ?_ _ | with_reducible refine Only.setCell ?_ (Or.inl ?_) _ | exact rfl)
          · exact (by repeat (first | with_reducible exact HOX.out | with_reducible exact Only.refl _ _ | with_reducible refine Only.drew ?_ | with_reducible refine Only.alloc ?_ _ | with_reducible refine Only.setCell ?_ (Or.inr ?_) _ | exact HN4.out | exact HN3.out | exact HN2.out))
      case rest =>
        obtain ⟨vx, Y, rfl, rfl, hbx, hvx, hox⟩ := hcut
        obtain ⟨wa, rfl⟩ : ∃ wa, wa = wc := ⟨_, rfl⟩
        have HBX : Hid (∀ w', Only Nobody wa w' → Blk w' Y 25 #[.int .i64 vx.k, .int .i64 vx.i, .int .i64 vx.s, .string vx.t, .slice vx.la vx.ln vx.lc, .slice vx.fa vx.fn vx.fc]) := Lib.hid fun w' h' => h'.blk hbx (fun x => x)
        have HXV := Lib.hid hvx
        have HOA2 := Lib.hid (HO2.out.trans hox)
        have HXA := Lib.hid (HX2.out.trans hox)
        clear hbx hvx hox HX1 HO1 HX2 HO2 b0 b1 b2 b3 b4 b5 HOX HN2 HZ2 HOB HXB
        have HOB : Hid (Only Nobody w wa) := Lib.hid (HOA2.out)
        have HXB : Hid (Only Nobody (w.alloc (.cells #[.int .i64 v.k, .int .i64 v.i, .int .i64 v.s, .string v.t, .slice v.la v.ln v.lc, .slice v.fa v.fn v.fc] 25)) wa) := Lib.hid (HXA.out)
        have HOX : Hid (Only Nobody wa wa) := Lib.hid (Only.refl _ _)
        have HN2 : Hid (wa.heap.size ≤ wa.heap.size) := Lib.hid (Nat.le_refl _)
        have HZ2 : Hid (∀ w', Only Nobody (wa.alloc (.cells #[.int .i64 0, .int .i64 0, .int .i64 0, .string ⟨#[]⟩, .slice none 0 0, .slice none 0 0] 25)) w' → Blk w' wa.heap.size 25 #[.int .i64 0, .int .i64 0, .int .i64 0, .string ⟨#[]⟩, .slice none 0 0, .slice none 0 0]) := Lib.hid fun w' h' => h'.blk (Blk.new wa _ _) (fun x => x)
        obtain ⟨b0, b1, b2, b3, b4, b5⟩ := HBV.out wa HXB.out
        go_upto_region 4 with fail
        go_cut [7, 8] (fun y f wx => ∃ (Ay : Option Addr) (cy : Nat), y = .slice Ay (findR T L).length cy ∧ f = .int .i64 (findE T L) ∧ VRow wx Any_ n Ay (findR T L).length (findR T L) ∧ (findR T L).length ≤ cy ∧ Only Nobody wa wx)
        case first =>
          go_region_held3 (fun w' => w'.cell? ⟨w.heap.size, 0, none⟩ = some (.int .i64 v.k) ∧ w'.cell? ⟨w.heap.size, 1, none⟩ = some (.int .i64 v.i) ∧ w'.cell? ⟨w.heap.size, 2, none⟩ = some (.int .i64 v.s) ∧ w'.cell? ⟨w.heap.size, 3, none⟩ = some (.string v.t) ∧ w'.cell? ⟨w.heap.size, 4, none⟩ = some (.slice v.la v.ln v.lc) ∧ w'.cell? ⟨w.heap.size, 5, none⟩ = some (.slice v.fa v.fn v.fc)) (exact HBV.out _ (HXB.out.trans (by repeat (first | with_reducible exact HOX.out | with_reducible exact Only.refl _ _ | with_reducible refine Only.drew ?_ | with_reducible refine Only.alloc ?_ _ | with_reducible refine Only.setCell ?_ (Or.inr ?_) _ | exact HN4.out | exact HN3.out | exact HN2.out)))) (first
            | (go_at_call 11; refine (own_pts A m c L _ hm (HP.out.same (HOB.out.trans (by repeat (first | with_reducible exact HOX.out | with_reducible exact Only.refl _ _ | with_reducible refine Only.drew ?_ | with_reducible refine Only.alloc ?_ _ | with_reducible refine Only.setCell ?_ (Or.inr ?_) _ | exact HN4.out | exact HN3.out | exact HN2.out))))).mono ?_; rintro e w3 ⟨Y3, s3, rfl, hp3, ho3⟩; have HP3 := Lib.hid hp3; have HZ3 : Hid (∀ w', Only Nobody (w3.alloc (.cells #[.int .i64 0, .int .i64 0, .int .i64 0, .string ⟨#[]⟩, .slice none 0 0, .slice none 0 0] 25)) w' → Blk w' w3.heap.size 25 #[.int .i64 0, .int .i64 0, .int .i64 0, .string ⟨#[]⟩, .slice none 0 0, .slice none 0 0]) := Lib.hid fun w' h' => h'.blk (Blk.new w3 _ _) (fun x => x); (first | (with_reducible have HBQ := Lib.hid (HZ2.out w3 ho3)) | (have HBQ := Lib.hid (HZ2.out w3 (Only.trans (Only.refl _ _).drew ho3))) | skip); have HOX : Hid (Only Nobody wa w3) := Lib.hid (Only.trans (by repeat (first | with_reducible exact HOX.out | with_reducible exact Only.refl _ _ | with_reducible refine Only.drew ?_ | with_reducible refine Only.alloc ?_ _ | with_reducible refine Only.setCell ?_ (Or.inr ?_) _ | exact HN4.out | exact HN3.out | exact HN2.out)) ho3); have HN3 : Hid (wa.heap.size ≤ w3.heap.size) := Lib.hid HOX.out.size; clear hp3 ho3)
            | (go_at_call 15; refine (find_any v T S n Y3 m s3 L _ HSZ.out (HV.out.same (HOB.out.trans (by repeat (first | with_reducible exact HOX.out | with_reducible exact Only.refl _ _ | with_reducible refine Only.drew ?_ | with_reducible refine Only.alloc ?_ _ | with_reducible refine Only.setCell ?_ (Or.inr ?_) _ | exact HN4.out | exact HN3.out | exact HN2.out)))) (HP3.out.same (by repeat (first | with_reducible exact Only.refl _ _ | with_reducible refine Only.drew ?_ | with_reducible refine Only.alloc ?_ _))) hm (HS.out.same (HOB.out.trans (by repeat (first | with_reducible exact HOX.out | with_reducible exact Only.refl _ _ | with_reducible refine Only.drew ?_ | with_reducible refine Only.alloc ?_ _ | with_reducible refine Only.setCell ?_ (Or.inr ?_) _ | exact HN4.out | exact HN3.out | exact HN2.out)))).tab).mono ?_; rintro e w4 ⟨Af, cf, rfl, hrow, hlec, ho4⟩; have HROW := Lib.hid hrow; have HLEC := Lib.hid hlec; have HOX : Hid (Only Nobody wa w4) := Lib.hid (Only.trans (by repeat (first | with_reducible exact HOX.out | with_reducible exact Only.refl _ _ | with_reducible refine Only.drew ?_ | with_reducible refine Only.alloc ?_ _ | with_reducible refine Only.setCell ?_ (Or.inr ?_) _ | exact HN4.out | exact HN3.out | exact HN2.out)) ho4); have HN4 : Hid (wa.heap.size ≤ w4.heap.size) := Lib.hid HOX.out.size; clear hrow hlec ho4))
          all_goals
            go_wp2_with fail
            go_meet
            exact ⟨_, _, rfl, rfl, HROW.out.any, HLEC.out, HOX.out⟩
        case rest =>
          obtain ⟨Ay, cy, rfl, rfl, hrow, hlec, hox⟩ := hcut
          obtain ⟨wb, rfl⟩ : ∃ wb, wb = wc := ⟨_, rfl⟩
          have HROW := Lib.hid hrow
          have HLEC := Lib.hid hlec
          have HAB := Lib.hid hox
          have HOB2 := Lib.hid (HOA2.out.trans hox)
          have HXB2 := Lib.hid (HXA.out.trans hox)
          clear hrow hlec hox b0 b1 b2 b3 b4 b5 HOX HN2 HZ2 HOB HXB
          have HOB : Hid (Only Nobody w wb) := Lib.hid (HOB2.out)
          have HXB : Hid (Only Nobody (w.alloc (.cells #[.int .i64 v.k, .int .i64 v.i, .int .i64 v.s, .string v.t, .slice v.la v.ln v.lc, .slice v.fa v.fn v.fc] 25)) wb) := Lib.hid (HXB2.out)
          have HOX : Hid (Only Nobody wb wb) := Lib.hid (Only.refl _ _)
          have HN2 : Hid (wb.heap.size ≤ wb.heap.size) := Lib.hid (Nat.le_refl _)
          have HZ2 : Hid (∀ w', Only Nobody (wb.alloc (.cells #[.int .i64 0, .int .i64 0, .int .i64 0, .string ⟨#[]⟩, .slice none 0 0, .slice none 0 0] 25)) w' → Blk w' wb.heap.size 25 #[.int .i64 0, .int .i64 0, .int .i64 0, .string ⟨#[]⟩, .slice none 0 0, .slice none 0 0]) := Lib.hid fun w' h' => h'.blk (Blk.new wb _ _) (fun x => x)
          obtain ⟨b0, b1, b2, b3, b4, b5⟩ := HBV.out wb HXB.out
          go_upto_region 5 with fail
          go_cut [9, 10] (fun x e wx => ∃ (vx : VC) (Y : Nat), x = .pointer (some ⟨Y, 0, none⟩) ∧ e = .int .i64 (findE T L) ∧ Blk wx Y 25 #[.int .i64 vx.k, .int .i64 vx.i, .int .i64 vx.s, .string vx.t, .slice vx.la vx.ln vx.lc, .slice vx.fa vx.fn vx.fc] ∧ VAt wx Any_ (n + 1) vx (getV T L) ∧ Only Nobody wb wx)
          case first =>
            go_wp2_with fail
            refine (rget_any v T S n A m c L _ HSZ.out (HV.out.same (HOB.out.trans (by repeat (first | with_reducible exact HOX.out | with_reducible exact Only.refl _ _ | with_reducible refine Only.drew ?_ | with_reducible refine Only.alloc ?_ _ | with_reducible refine Only.setCell ?_ (Or.inr ?_) _ | exact HN4.out | exact HN3.out | exact HN2.out)))) (HP.out.same (HOB.out.trans (by repeat (first | with_reducible exact HOX.out | with_reducible exact Only.refl _ _ | with_reducible refine Only.drew ?_ | with_reducible refine Only.alloc ?_ _ | with_reducible refine Only.setCell ?_ (Or.inr ?_) _ | exact HN4.out | exact HN3.out | exact HN2.out)))) hm).mono ?_
            rintro e w4 ⟨vx, rfl, hvx, ho4⟩
            have HOX : Hid (Only Nobody wb w4) := Lib.hid (Only.trans (by repeat (first | with_reducible exact HOX.out | with_reducible exact Only.refl _ _ | with_reducible refine Only.drew ?_ | with_reducible refine Only.alloc ?_ _ | with_reducible refine Only.setCell ?_ (Or.inr ?_) _ | exact HN4.out | exact HN3.out | exact HN2.out)) ho4)
            have HN4 : Hid (wb.heap.size ≤ w4.heap.size) := Lib.hid HOX.out.size
            have HBK := Lib.hid (Blk.new w4 25 #[.int .i64 0, .int .i64 0, .int .i64 0, .string ⟨#[]⟩, .slice none 0 0, .slice none 0 0])
            clear ho4
            go_wp2_with fail
            go_meet
            refine ⟨vx, _, rfl, rfl, ?_, ?_, ?_⟩
            · first
                | with_reducible exact Blk.new _ _ _
                | exact (((((HBK.out.set_ 0 _).set_ 1 _).set_ 2 _).set_ 3 _).set_ 4 _).set_ 5 _
            · refine VAt.any (VAt.keep (VAt.mono hvx (S' := fun b => b < w4.heap.size) (fun b hb _ => hb)) (F := fun b => w4.heap.size ≤ b) ?_ (fun b hb e => absurd hb (Nat.not_lt.2 e)))
              repeat (first | with_reducible exact Only.refl _ _ | with_reducible refine Only.drew ?_ | with_reducible refine Only.alloc ?_ _ | with_reducible refine Only.setCell ?_ (Or.inl ?_) _ | exact Nat.le_refl _)
            · exact (by repeat (first | with_reducible exact HOX.out | with_reducible exact Only.refl _ _ | with_reducible refine Only.drew ?_ | with_reducible refine Only.alloc ?_ _ | with_reducible refine Only.setCell ?_ (Or.inr ?_) _ | exact HN4.out | exact HN3.out | exact HN2.out))
          case rest =>
            obtain ⟨vw, Yw, rfl, rfl, hbx, hvx, hox⟩ := hcut
            obtain ⟨wd, rfl⟩ : ∃ wd, wd = wc := ⟨_, rfl⟩
            have HBW : Hid (∀ w', Only Nobody wd w' → Blk w' Yw 25 #[.int .i64 vw.k, .int .i64 vw.i, .int .i64 vw.s, .string vw.t, .slice vw.la vw.ln vw.lc, .slice vw.fa vw.fn vw.fc]) := Lib.hid fun w' h' => h'.blk hbx (fun x => x)
            have HWV := Lib.hid hvx
            have HBD := Lib.hid hox
            have HAD := Lib.hid (HAB.out.trans hox)
            have HOD := Lib.hid (HOB2.out.trans hox)
            clear hbx hvx hox b0 b1 b2 b3 b4 b5 HOX HN2 HZ2 HOB HXB
            obtain ⟨p0, p1, p2, p3, p4, p5⟩ : _ ∧ _ ∧ _ ∧ _ ∧ _ ∧ _ := ⟨(HBX.out wd HAD.out).cell 0, (HBX.out wd HAD.out).cell 1, (HBX.out wd HAD.out).cell 2, (HBX.out wd HAD.out).cell 3, (HBX.out wd HAD.out).cell 4, (HBX.out wd HAD.out).cell 5⟩
            obtain ⟨q0, q1, q2, q3, q4, q5⟩ : _ ∧ _ ∧ _ ∧ _ ∧ _ ∧ _ := ⟨(HBW.out wd (Only.refl _ _)).cell 0, (HBW.out wd (Only.refl _ _)).cell 1, (HBW.out wd (Only.refl _ _)).cell 2, (HBW.out wd (Only.refl _ _)).cell 3, (HBW.out wd (Only.refl _ _)).cell 4, (HBW.out wd (Only.refl _ _)).cell 5⟩
            go_wp2_with fail
            refine (same_eq (n + 1) vx vw (getV T L) _ _ _ (by have := getV_size T L; have := HSZ.out; omega) (HXV.out.same HAD.out) HWV.out).mono ?_
            rintro e we ⟨rfl, ho⟩
            have HDE := Lib.hid ho
            have HOE := Lib.hid (HOD.out.trans ho)
            have hee : (findE T L != findE T L) = false := by simp
            clear ho p0 p1 p2 p3 p4 p5 q0 q1 q2 q3 q4 q5
            by_cases hE : findE T L = 0
            · obtain ⟨hokL, hfind⟩ := find_ok hE
              have HOK := Lib.hid hokL
              have HFIND := Lib.hid hfind
              have hE0 : (findE T L != 0) = false := by simp [hE]
              clear hokL hfind
              obtain ⟨R, HR⟩ : ∃ R, Hid (findR T L = R) := ⟨_, Lib.hid rfl⟩
              have HRS : Hid (sizeL R ≤ T.size) := Lib.hid (by rw [← HR.out]; exact findR_size T L)
              rw [HR.out] at HROW HLEC HFIND ⊢
              obtain ⟨Vy, HVY, HVA⟩ := HROW.out
              have HVYh := Lib.hid HVY
              have HVAh := Lib.hid HVA
              clear HVY HVA
              have hRle : R.length ≤ 1000000 := by have := sizeL_len R; have := HRS.out; have := HSZ.out; omega
              obtain ⟨b0, b1, b2, b3, b4, b5⟩ := HBV.out we (HXB2.out.trans (HBD.out.trans HDE.out))
              go_wp2_with fail
              refine (rfind_any v T S n A m c L _ HSZ.out (HV.out.same HOE.out) (HP.out.same HOE.out) hm HOK.out).mono ?_
              rintro e wf ⟨Az, mz, cz, Vz, he, hmz, hrz, haz, ho⟩
              have HAZ : Hid (All2 (VAt wf (fun b => S b ∧ b < we.heap.size) n) Vz R) := Lib.hid (by rw [HFIND.out] at haz; exact haz)
              obtain rfl : mz = R.length := by rw [← hrz.len, HAZ.out.1]
              rw [HFIND.out] at he
              simp only [Option.isSome_some] at he
              subst he
              have HRZ := Lib.hid hrz
              have HEF := Lib.hid ho
              have HOF := Lib.hid (HOE.out.trans ho)
              have HBF := Lib.hid ((HBD.out.trans HDE.out).trans ho)
              clear hrz haz ho hmz b0 b1 b2 b3 b4 b5
              have hll : ((R.length : Int) != (R.length : Int)) = false := by simp
              go_wp2_with fail
              go_loopw [13] (fun i wx => ∃ j : Nat, i = .int .i64 (j : Int) ∧ j ≤ R.length ∧ Hid (Only Nobody wf wx)) (fun i _ => R.length - (intOf i).toNat)
              case atStart => exact ⟨0, rfl, Nat.zero_le _, Lib.hid (Only.refl _ _)⟩
              case round =>
                obtain ⟨j, rfl, hj, HON⟩ := hrel
                have hj0 : (0 : Int) ≤ (j : Int) := by omega
                by_cases hjn : j < R.length
                · have hjI : (j : Int) < (R.length : Int) := by omega
                  obtain ⟨ad, rfl⟩ := HVYh.out.some_ (by omega)
                  obtain ⟨bd, rfl⟩ := HRZ.out.some_ (by omega)
                  obtain ⟨p, hp⟩ := HVYh.out.get hjn
                  obtain ⟨x, hx, hax⟩ := HVAh.out.get hp
                  obtain ⟨q, hq, hax2⟩ := HAZ.out.get' hx
                  have HXS : Hid (x.size ≤ 2000000) := Lib.hid (by have := sizeL_mem hx; have := HRS.out; have := HSZ.out; omega)
                  have HAX : Hid (∀ w', Only Nobody wr w' → VAt w' Any_ n p x) := Lib.hid fun w' h => hax.same ((HBF.out.trans HON.out).trans h)
                  have HAX2 : Hid (∀ w', Only Nobody wr w' → VAt w' Any_ n q x) := Lib.hid fun w' h => (hax2.any).same (HON.out.trans h)
                  have HHC : Hid (∀ w', Only Nobody wr w' → w'.cell? (ad.add (j * 6)) = some (.int .i64 p.k) ∧ w'.cell? ⟨(ad.add (j * 6)).block, (ad.add (j * 6)).off + 1, none⟩ = some (.int .i64 p.i) ∧ w'.cell? ⟨(ad.add (j * 6)).block, (ad.add (j * 6)).off + 2, none⟩ = some (.int .i64 p.s) ∧ w'.cell? ⟨(ad.add (j * 6)).block, (ad.add (j * 6)).off + 3, none⟩ = some (.string p.t) ∧ w'.cell? ⟨(ad.add (j * 6)).block, (ad.add (j * 6)).off + 4, none⟩ = some (.slice p.la p.ln p.lc) ∧ w'.cell? ⟨(ad.add (j * 6)).block, (ad.add (j * 6)).off + 5, none⟩ = some (.slice p.fa p.fn p.fc) ∧ w'.cell? (bd.add (j * 6)) = some (.int .i64 q.k) ∧ w'.cell? ⟨(bd.add (j * 6)).block, (bd.add (j * 6)).off + 1, none⟩ = some (.int .i64 q.i) ∧ w'.cell? ⟨(bd.add (j * 6)).block, (bd.add (j * 6)).off + 2, none⟩ = some (.int .i64 q.s) ∧ w'.cell? ⟨(bd.add (j * 6)).block, (bd.add (j * 6)).off + 3, none⟩ = some (.string q.t) ∧ w'.cell? ⟨(bd.add (j * 6)).block, (bd.add (j * 6)).off + 4, none⟩ = some (.slice q.la q.ln q.lc) ∧ w'.cell? ⟨(bd.add (j * 6)).block, (bd.add (j * 6)).off + 5, none⟩ = some (.slice q.fa q.fn q.fc)) := Lib.hid fun w' h => by
                    have h1 := (HVYh.out.same ((HBF.out.trans HON.out).trans h)).vat hp
                    have h2 := (HRZ.out.same (HON.out.trans h)).vat hq
                    exact ⟨h1.c0, h1.c1, h1.c2, h1.c3, h1.c4, h1.c5, h2.c0, h2.c1, h2.c2, h2.c3, h2.c4, h2.c5⟩
                  have hcc := HHC.out wr (Only.refl _ _)
                  clear hp hx hax hq hax2
                  go_upto_region 16 with fail
                  go_region_held3 (fun w' => w'.cell? (ad.add (j * 6)) = some (.int .i64 p.k) ∧ w'.cell? ⟨(ad.add (j * 6)).block, (ad.add (j * 6)).off + 1, none⟩ = some (.int .i64 p.i) ∧ w'.cell? ⟨(ad.add (j * 6)).block, (ad.add (j * 6)).off + 2, none⟩ = some (.int .i64 p.s) ∧ w'.cell? ⟨(ad.add (j * 6)).block, (ad.add (j * 6)).off + 3, none⟩ = some (.string p.t) ∧ w'.cell? ⟨(ad.add (j * 6)).block, (ad.add (j * 6)).off + 4, none⟩ = some (.slice p.la p.ln p.lc) ∧ w'.cell? ⟨(ad.add (j * 6)).block, (ad.add (j * 6)).off + 5, none⟩ = some (.slice p.fa p.fn p.fc) ∧ w'.cell? (bd.add (j * 6)) = some (.int .i64 q.k) ∧ w'.cell? ⟨(bd.add (j * 6)).block, (bd.add (j * 6)).off + 1, none⟩ = some (.int .i64 q.i) ∧ w'.cell? ⟨(bd.add (j * 6)).block, (bd.add (j * 6)).off + 2, none⟩ = some (.int .i64 q.s) ∧ w'.cell? ⟨(bd.add (j * 6)).block, (bd.add (j * 6)).off + 3, none⟩ = some (.string q.t) ∧ w'.cell? ⟨(bd.add (j * 6)).block, (bd.add (j * 6)).off + 4, none⟩ = some (.slice q.la q.ln q.lc) ∧ w'.cell? ⟨(bd.add (j * 6)).block, (bd.add (j * 6)).off + 5, none⟩ = some (.slice q.fa q.fn q.fc))
                    (first | exact hcc | exact hcd | exact HHC.out _ (by repeat (first | with_reducible exact Only.refl _ _ | with_reducible refine Only.drew ?_ | with_reducible refine Only.alloc ?_ _)))
                    (first | (go_at_call 14; refine (same_eq n p q x Any_ Any_ _ HXS.out (HAX.out _ (by repeat (first | with_reducible exact Only.refl _ _ | with_reducible refine Only.drew ?_ | with_reducible refine Only.alloc ?_ _))) (HAX2.out _ (by repeat (first | with_reducible exact Only.refl _ _ | with_reducible refine Only.drew ?_ | with_reducible refine Only.alloc ?_ _)))).mono ?_; rintro e w7 ⟨rfl, ho⟩; have HO7 : Hid (Only Nobody wr w7) := Lib.hid (Only.trans (by repeat (first | with_reducible exact Only.refl _ _ | with_reducible refine Only.drew ?_ | with_reducible refine Only.alloc ?_ _)) ho); have hcd := HHC.out w7 HO7.out; clear ho))
                  all_goals
                    have HOn := Lib.hid (HON.out.trans HO7.out)
                    go_wp2_with fail
                    go_roundw
                    case rel => first | exact ⟨j + 1, by go_num, by omega, HOn⟩ | ((repeat apply Exists.intro); exact ⟨⟨j + 1, by go_num, by omega, HOn⟩, rfl⟩)
                    case measure => simp [intOf]; omega
                · obtain rfl : j = R.length := by omega
                  go_wp2_with fail
                  go_ret
                  exact ⟨rfl, HOF.out.trans HON.out⟩
            · have hE0 : (findE T L != 0) = true := by simp [hE]
              have hz : (findR T L).length = 0 := by rw [findR_err hE]; rfl
              have hzI : ((findR T L).length : Int) = 0 := by rw [hz]; rfl
              go_wp2_with fail
              go_ret
              exact ⟨rfl, HOE.out⟩

/-- The law as the claim wants it. -/
theorem lawGetsW (v : VC) (T : VT) (n : Nat) {w : World} (hsz : T.size ≤ 524288) (h : VAt w (fun b => b < w.heap.size) n v T) (A : Option Addr) (m c : Nat) (L : List Pt) (ha : Pts w A m L) (hs : Std w) : Calls Tryd.prog 4 #[.agg #[.int .i64 v.k, .int .i64 v.i, .int .i64 v.s, .string v.t, .slice v.la v.ln v.lc, .slice v.fa v.fn v.fc], .slice A m c] w fun e w' => e = .returned (.bool true) ∧ Only Nobody w w' :=
  lawGets v T _ n A m c L (by omega) h ha hs
end Go.Proofs.YtdccckoelnnnoaaDoor
