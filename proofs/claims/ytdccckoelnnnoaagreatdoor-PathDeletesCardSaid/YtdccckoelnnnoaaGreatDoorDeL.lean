/- Path: the law PathDeletes. -/
import Derived.Test.YtdccckoelnnnoaaGreatDoorGeL
import Derived.Test.YtdccckoelnnnoaaGreatDoorSetB
import Derived.Test.YtdccckoelnnnoaaGreatDoorRdD
namespace Go.Proofs.YtdccckoelnnnoaaGreatDoor
open Go.RowKit
attribute [local go_sem ↓] Go.wp_at_zero Go.wp_at_succ

def OwnPtc (q : Nat) (Z : List Pt) (w1 : World) (e : Ending) (w2 : World) : Prop := ∃ Y s, e = .returned (.slice Y q s) ∧ q ≤ s ∧ Pts w2 Y q Z ∧ Only Nobody w1 w2
theorem own_ptc (X : Option Addr) (q r : Nat) (Z : List Pt) (w1 : World) (hq : q ≤ 1000) (hp : Pts w1 X q Z) : Calls Tryz.prog 7 #[.slice X q r] w1 (OwnPtc q Z w1) := (own_any X q r Z hq w1 hp).mono (by
    rintro e w2 ⟨vo, rfl, hown, ho2⟩
    rw [hp.len] at hown
    obtain ⟨Y, s, rfl⟩ := own_form hown
    refine ⟨Y, s, rfl, ?_, Pts.of_own hown, ho2⟩
    rcases hown.2 with ⟨_, h0⟩ | ⟨g, cap, cur, hv, _, _, hc, _⟩
    · omega
    · injection hv with _ _ h3
      omega)
def boolT : VT := .mk 1 0 0 ⟨#[]⟩ [] []
def boolC : VC := ⟨1, 0, 0, ⟨#[]⟩, none, 0, 0, none, 0, 0⟩
theorem bool_size : boolT.size = 0 := by simp [boolT, VT.size, sizeL, sizeF]
theorem bool_at (w : World) (S : Nat → Prop) (n : Nat) : VAt w S (n + 1) boolC boolT :=
  ⟨⟨rfl, rfl, rfl, rfl, Nat.le_refl _, Nat.le_refl _⟩, ⟨[], RowA.nil_, All2.nil_⟩, ⟨[], RowA.nil_, All2.nil_⟩⟩
/-- What the law asks where nothing is there. -/
theorem absent_find {T : VT} {L : List Pt} (hok : okL L = true) (h : findE T L = 19) : findT [T] L = some [] := by
  unfold findE at h
  rw [chkE_ok hok, if_pos rfl] at h
  cases hf : findT [T] L with
  | none => rw [hf] at h; cases h
  | some R =>
    rw [hf] at h
    simp only [] at h
    split at h
    · rename_i hh; rw [hh.1]
    · cases h
theorem one_find {T : VT} {L : List Pt} (he : everyL L = false) (h : findE T L = 0) : ∃ P, findT [T] L = some [P] := by
  obtain ⟨hok, hf⟩ := find_ok h
  have h1 := findT_one he (by simp) hf
  have h2 := (findE_of hok hf).1
  rw [h] at h2
  match hR : findR T L, h1 with
  | [], _ => rw [hR, if_pos ⟨rfl, he⟩] at h2; cases h2
  | [P], _ => exact ⟨P, by rw [hf, hR]⟩
theorem caseB_no {L : List Pt} (h : caseB L = false) : ∀ p, L.getLast? = some p → p.kind ≠ 4 := by
  intro p hp
  unfold caseB at h
  rw [hp] at h
  simpa using h
theorem every_drop {L : List Pt} (h : everyL L = false) : everyL L.dropLast = false := by
  unfold everyL at h ⊢
  rw [List.any_eq_false] at h ⊢
  exact fun p hp => h p (List.dropLast_subset L hp)
theorem every_take {L : List Pt} {k : Nat} (h : everyL L = false) : everyL (L.take k) = false := by
  unfold everyL at h ⊢
  rw [List.any_eq_false] at h ⊢
  exact fun p hp => h p (List.take_subset k L hp)

set_option maxRecDepth 100000 in
set_option maxHeartbeats 32000000 in
theorem lawDel (v : VC) (T : VT) (S : Nat → Prop) (n : Nat) (A : Option Addr) (m c : Nat) (L : List Pt) {w : World} (hsz : T.size ≤ 140737488351232) (h : VAt w S n v T) (ha : Pts w A m L) (hmc : m ≤ c) (hs : Std w) : Calls Tryz.prog 3 #[.agg #[.int .i64 v.k, .int .i64 v.i, .int .i64 v.s, .string v.t, .slice v.la v.ln v.lc, .slice v.fa v.fn v.fc], .slice A m c] w fun e w' => e = .returned (.bool true) ∧ Only Nobody w w' := by
  have HV := Lib.hid h
  have HP := Lib.hid ha
  have HS := Lib.hid hs
  have HSZ := Lib.hid hsz
  have HOA : Hid (Only Nobody w (w.alloc (.cells #[.int .i64 v.k, .int .i64 v.i, .int .i64 v.s, .string v.t, .slice v.la v.ln v.lc, .slice v.fa v.fn v.fc] 25))) := Lib.hid ((Only.refl _ _).alloc _)
  have HBV : Hid (∀ w', Only Nobody (w.alloc (.cells #[.int .i64 v.k, .int .i64 v.i, .int .i64 v.s, .string v.t, .slice v.la v.ln v.lc, .slice v.fa v.fn v.fc] 25)) w' → w'.cell? ⟨w.heap.size, 0, none⟩ = some (.int .i64 v.k) ∧ w'.cell? ⟨w.heap.size, 1, none⟩ = some (.int .i64 v.i) ∧ w'.cell? ⟨w.heap.size, 2, none⟩ = some (.int .i64 v.s) ∧ w'.cell? ⟨w.heap.size, 3, none⟩ = some (.string v.t) ∧ w'.cell? ⟨w.heap.size, 4, none⟩ = some (.slice v.la v.ln v.lc) ∧ w'.cell? ⟨w.heap.size, 5, none⟩ = some (.slice v.fa v.fn v.fc)) := Lib.hid fun w' h' => by
    have hb := h'.blk (Blk.new w 25 #[.int .i64 v.k, .int .i64 v.i, .int .i64 v.s, .string v.t, .slice v.la v.ln v.lc, .slice v.fa v.fn v.fc]) (fun x => x)
    exact ⟨hb.cell 0, hb.cell 1, hb.cell 2, hb.cell 3, hb.cell 4, hb.cell 5⟩
  clear h ha hs hsz
  go_enter Tryz.func3, Tryz.ntmps3
  go_wp2_with fail
  refine (known_any _ (HS.out.same HOA.out)).mono ?_
  rintro e w1 ⟨rfl, ho⟩
  have HX1 := Lib.hid ho
  have HO1 := Lib.hid (HOA.out.trans ho)
  clear ho
  obtain ⟨b0, b1, b2, b3, b4, b5⟩ := HBV.out w1 HX1.out
  go_wp2_with fail
  refine (small_any v T S n _ HSZ.out (HV.out.same HO1.out)).mono ?_
  rintro e w2 ⟨bsm, rfl, ho⟩
  have HX2 := Lib.hid (HX1.out.trans ho)
  have HO2 := Lib.hid (HO1.out.trans ho)
  clear ho b0 b1 b2 b3 b4 b5
  cases bsm with
  | false =>
    go_wp2_with fail
    refine (known_any _ (HS.out.same HO2.out)).mono ?_
    rintro e w3 ⟨rfl, ho⟩
    have HO3 := Lib.hid (HO2.out.trans ho)
    clear ho
    go_wp2_with fail
    go_ret
    exact ⟨rfl, HO3.out⟩
  | true =>
    by_cases hm20 : 20 < m
    · have hmI : (20 : Int) < (m : Int) := by omega
      go_wp2_with fail
      refine (known_any _ (HS.out.same HO2.out)).mono ?_
      rintro e w3 ⟨rfl, ho⟩
      have HO3 := Lib.hid (HO2.out.trans ho)
      clear ho
      go_wp2_with fail
      go_ret
      exact ⟨rfl, HO3.out⟩
    · have hmI : ¬ (20 : Int) < (m : Int) := by omega
      have hm : m ≤ 1000 := by omega
      have HTS : Hid (T.size ≤ 140737488351232) := Lib.hid HSZ.out
      have HOB : Hid (Only Nobody w w2) := Lib.hid (HO2.out)
      have HOX : Hid (Only Nobody w2 w2) := Lib.hid (Only.refl _ _)
      have HN2 : Hid (w2.heap.size ≤ w2.heap.size) := Lib.hid (Nat.le_refl _)
      have HZ2 : Hid (∀ w', Only Nobody (w2.alloc (.cells #[.int .i64 0, .int .i64 0, .int .i64 0, .string ⟨#[]⟩, .slice none 0 0, .slice none 0 0] 25)) w' → Blk w' w2.heap.size 25 #[.int .i64 0, .int .i64 0, .int .i64 0, .string ⟨#[]⟩, .slice none 0 0, .slice none 0 0]) := Lib.hid fun w' h' => h'.blk (Blk.new w2 _ _) (fun x => x)
      obtain ⟨b0, b1, b2, b3, b4, b5⟩ := HBV.out w2 HX2.out
      go_upto_region 3 with fail
      go_cut [5, 6] (fun x e wx => ∃ (vx : VC) (nx Y : Nat), x = .pointer (some ⟨Y, 0, none⟩) ∧ e = .int .i64 (delE L T) ∧ Blk wx Y 25 #[.int .i64 vx.k, .int .i64 vx.i, .int .i64 vx.s, .string vx.t, .slice vx.la vx.ln vx.lc, .slice vx.fa vx.fn vx.fc] ∧ Hid (VAt wx Any_ nx vx (if delE L T = 0 then dlT L T else VT.zero)) ∧ Hid (Only Nobody w2 wx))
      case first =>
        go_region_held3 (fun w' => w'.cell? ⟨w.heap.size, 0, none⟩ = some (.int .i64 v.k) ∧ w'.cell? ⟨w.heap.size, 1, none⟩ = some (.int .i64 v.i) ∧ w'.cell? ⟨w.heap.size, 2, none⟩ = some (.int .i64 v.s) ∧ w'.cell? ⟨w.heap.size, 3, none⟩ = some (.string v.t) ∧ w'.cell? ⟨w.heap.size, 4, none⟩ = some (.slice v.la v.ln v.lc) ∧ w'.cell? ⟨w.heap.size, 5, none⟩ = some (.slice v.fa v.fn v.fc)) (exact HBV.out _ (HX2.out.trans (by repeat (first | with_reducible exact HOX.out | with_reducible exact Only.refl _ _ | with_reducible refine Only.drew ?_ | with_reducible refine Only.alloc ?_ _ | with_reducible refine Only.setCell ?_ (Or.inr ?_) _ | exact HN4.out | exact HN3.out | exact HN2.out)))) (first
          | (go_at_call 7; refine (own_ptc A m c L _ hm (HP.out.same (HOB.out.trans (by repeat (first | with_reducible exact HOX.out | with_reducible exact Only.refl _ _ | with_reducible refine Only.drew ?_ | with_reducible refine Only.alloc ?_ _ | with_reducible refine Only.setCell ?_ (Or.inr ?_) _ | exact HN4.out | exact HN3.out | exact HN2.out))))).mono ?_; rintro e w3 ⟨Y3, s3, rfl, hms3, hp3, ho3⟩; have HP3 := Lib.hid hp3; have HZ3 : Hid (∀ w', Only Nobody (w3.alloc (.cells #[.int .i64 0, .int .i64 0, .int .i64 0, .string ⟨#[]⟩, .slice none 0 0, .slice none 0 0] 25)) w' → Blk w' w3.heap.size 25 #[.int .i64 0, .int .i64 0, .int .i64 0, .string ⟨#[]⟩, .slice none 0 0, .slice none 0 0]) := Lib.hid fun w' h' => h'.blk (Blk.new w3 _ _) (fun x => x); (first | (with_reducible have HBQ := Lib.hid (HZ2.out w3 ho3)) | (have HBQ := Lib.hid (HZ2.out w3 (Only.trans (Only.refl _ _).drew ho3))) | skip); have HOX : Hid (Only Nobody w2 w3) := Lib.hid (Only.trans (by repeat (first | with_reducible exact HOX.out | with_reducible exact Only.refl _ _ | with_reducible refine Only.drew ?_ | with_reducible refine Only.alloc ?_ _ | with_reducible refine Only.setCell ?_ (Or.inr ?_) _ | exact HN4.out | exact HN3.out | exact HN2.out)) ho3); have HN3 : Hid (w2.heap.size ≤ w3.heap.size) := Lib.hid HOX.out.size; clear hp3 ho3)
          | (go_at_call 6; refine (delete_any v T S n Y3 m s3 L _ HTS.out hm hms3 (HV.out.same (HOB.out.trans (by repeat (first | with_reducible exact HOX.out | with_reducible exact Only.refl _ _ | with_reducible refine Only.drew ?_ | with_reducible refine Only.alloc ?_ _ | with_reducible refine Only.setCell ?_ (Or.inr ?_) _ | exact HN4.out | exact HN3.out | exact HN2.out)))) (HP3.out.same (by repeat (first | with_reducible exact Only.refl _ _ | with_reducible refine Only.drew ?_ | with_reducible refine Only.alloc ?_ _))) (HS.out.same (HOB.out.trans (by repeat (first | with_reducible exact HOX.out | with_reducible exact Only.refl _ _ | with_reducible refine Only.drew ?_ | with_reducible refine Only.alloc ?_ _ | with_reducible refine Only.setCell ?_ (Or.inr ?_) _ | exact HN4.out | exact HN3.out | exact HN2.out)))).tab).mono ?_; rintro e w4 ⟨vx, nx, rfl, hvx, ho4⟩; unfold retV; (first | ((with_reducible have HBK := Lib.hid (HZ3.out w4 ho4)); have r0 : w4.cell? ⟨w3.heap.size, 0, none⟩ = some (.int .i64 0) := HBK.out.cell 0; have f0 : w4.frozen? ⟨w3.heap.size, 0, none⟩ = false := HBK.out.frozen 0; have r1 : w4.cell? ⟨w3.heap.size, 1, none⟩ = some (.int .i64 0) := HBK.out.cell 1; have f1 : w4.frozen? ⟨w3.heap.size, 1, none⟩ = false := HBK.out.frozen 1; have r2 : w4.cell? ⟨w3.heap.size, 2, none⟩ = some (.int .i64 0) := HBK.out.cell 2; have f2 : w4.frozen? ⟨w3.heap.size, 2, none⟩ = false := HBK.out.frozen 2; have r3 : w4.cell? ⟨w3.heap.size, 3, none⟩ = some (.string ⟨#[]⟩) := HBK.out.cell 3; have f3 : w4.frozen? ⟨w3.heap.size, 3, none⟩ = false := HBK.out.frozen 3; have r4 : w4.cell? ⟨w3.heap.size, 4, none⟩ = some (.slice none 0 0) := HBK.out.cell 4; have f4 : w4.frozen? ⟨w3.heap.size, 4, none⟩ = false := HBK.out.frozen 4; have r5 : w4.cell? ⟨w3.heap.size, 5, none⟩ = some (.slice none 0 0) := HBK.out.cell 5; have f5 : w4.frozen? ⟨w3.heap.size, 5, none⟩ = false := HBK.out.frozen 5; have HYV : Hid (VAt w4 (fun b => b ≠ w3.heap.size) nx vx (if delE L T = 0 then dlT L T else VT.zero)) := Lib.hid (hvx.mono fun b hb hs => (by intro e; subst e; simp at hs <;> omega))) | (have HBK := Lib.hid (ho4.blk HBQ.out (fun x => x)); have r0 : w4.cell? ⟨w2.heap.size, 0, none⟩ = some (.int .i64 0) := HBK.out.cell 0; have f0 : w4.frozen? ⟨w2.heap.size, 0, none⟩ = false := HBK.out.frozen 0; have r1 : w4.cell? ⟨w2.heap.size, 1, none⟩ = some (.int .i64 0) := HBK.out.cell 1; have f1 : w4.frozen? ⟨w2.heap.size, 1, none⟩ = false := HBK.out.frozen 1; have r2 : w4.cell? ⟨w2.heap.size, 2, none⟩ = some (.int .i64 0) := HBK.out.cell 2; have f2 : w4.frozen? ⟨w2.heap.size, 2, none⟩ = false := HBK.out.frozen 2; have r3 : w4.cell? ⟨w2.heap.size, 3, none⟩ = some (.string ⟨#[]⟩) := HBK.out.cell 3; have f3 : w4.frozen? ⟨w2.heap.size, 3, none⟩ = false := HBK.out.frozen 3; have r4 : w4.cell? ⟨w2.heap.size, 4, none⟩ = some (.slice none 0 0) := HBK.out.cell 4; have f4 : w4.frozen? ⟨w2.heap.size, 4, none⟩ = false := HBK.out.frozen 4; have r5 : w4.cell? ⟨w2.heap.size, 5, none⟩ = some (.slice none 0 0) := HBK.out.cell 5; have f5 : w4.frozen? ⟨w2.heap.size, 5, none⟩ = false := HBK.out.frozen 5; have HYV : Hid (VAt w4 (fun b => b ≠ w2.heap.size) nx vx (if delE L T = 0 then dlT L T else VT.zero)) := Lib.hid (hvx.mono fun b hb hs => (by intro e; subst e; have := HBQ.out.lt; omega))) | (have HBK := Lib.hid (Blk.new w4 25 #[.int .i64 0, .int .i64 0, .int .i64 0, .string ⟨#[]⟩, .slice none 0 0, .slice none 0 0]); have r0 : (w4.alloc (.cells #[.int .i64 0, .int .i64 0, .int .i64 0, .string ⟨#[]⟩, .slice none 0 0, .slice none 0 0] 25)).cell? ⟨w4.heap.size, 0, none⟩ = some (.int .i64 0) := HBK.out.cell 0; have f0 : (w4.alloc (.cells #[.int .i64 0, .int .i64 0, .int .i64 0, .string ⟨#[]⟩, .slice none 0 0, .slice none 0 0] 25)).frozen? ⟨w4.heap.size, 0, none⟩ = false := HBK.out.frozen 0; have r1 : (w4.alloc (.cells #[.int .i64 0, .int .i64 0, .int .i64 0, .string ⟨#[]⟩, .slice none 0 0, .slice none 0 0] 25)).cell? ⟨w4.heap.size, 1, none⟩ = some (.int .i64 0) := HBK.out.cell 1; have f1 : (w4.alloc (.cells #[.int .i64 0, .int .i64 0, .int .i64 0, .string ⟨#[]⟩, .slice none 0 0, .slice none 0 0] 25)).frozen? ⟨w4.heap.size, 1, none⟩ = false := HBK.out.frozen 1; have r2 : (w4.alloc (.cells #[.int .i64 0, .int .i64 0, .int .i64 0, .string ⟨#[]⟩, .slice none 0 0, .slice none 0 0] 25)).cell? ⟨w4.heap.size, 2, none⟩ = some (.int .i64 0) := HBK.out.cell 2; have f2 : (w4.alloc (.cells #[.int .i64 0, .int .i64 0, .int .i64 0, .string ⟨#[]⟩, .slice none 0 0, .slice none 0 0] 25)).frozen? ⟨w4.heap.size, 2, none⟩ = false := HBK.out.frozen 2; have r3 : (w4.alloc (.cells #[.int .i64 0, .int .i64 0, .int .i64 0, .string ⟨#[]⟩, .slice none 0 0, .slice none 0 0] 25)).cell? ⟨w4.heap.size, 3, none⟩ = some (.string ⟨#[]⟩) := HBK.out.cell 3; have f3 : (w4.alloc (.cells #[.int .i64 0, .int .i64 0, .int .i64 0, .string ⟨#[]⟩, .slice none 0 0, .slice none 0 0] 25)).frozen? ⟨w4.heap.size, 3, none⟩ = false := HBK.out.frozen 3; have r4 : (w4.alloc (.cells #[.int .i64 0, .int .i64 0, .int .i64 0, .string ⟨#[]⟩, .slice none 0 0, .slice none 0 0] 25)).cell? ⟨w4.heap.size, 4, none⟩ = some (.slice none 0 0) := HBK.out.cell 4; have f4 : (w4.alloc (.cells #[.int .i64 0, .int .i64 0, .int .i64 0, .string ⟨#[]⟩, .slice none 0 0, .slice none 0 0] 25)).frozen? ⟨w4.heap.size, 4, none⟩ = false := HBK.out.frozen 4; have r5 : (w4.alloc (.cells #[.int .i64 0, .int .i64 0, .int .i64 0, .string ⟨#[]⟩, .slice none 0 0, .slice none 0 0] 25)).cell? ⟨w4.heap.size, 5, none⟩ = some (.slice none 0 0) := HBK.out.cell 5; have f5 : (w4.alloc (.cells #[.int .i64 0, .int .i64 0, .int .i64 0, .string ⟨#[]⟩, .slice none 0 0, .slice none 0 0] 25)).frozen? ⟨w4.heap.size, 5, none⟩ = false := HBK.out.frozen 5; have HYV : Hid (VAt w4 (fun b => b ≠ w4.heap.size) nx vx (if delE L T = 0 then dlT L T else VT.zero)) := Lib.hid (hvx.mono fun b hb hs => (by omega)))); have HOX : Hid (Only Nobody w2 w4) := Lib.hid (Only.trans (by repeat (first | with_reducible exact HOX.out | with_reducible exact Only.refl _ _ | with_reducible refine Only.drew ?_ | with_reducible refine Only.alloc ?_ _ | with_reducible refine Only.setCell ?_ (Or.inr ?_) _ | exact HN4.out | exact HN3.out | exact HN2.out)) ho4); have HN4 : Hid (w2.heap.size ≤ w4.heap.size) := Lib.hid HOX.out.size; clear hvx ho4))
        all_goals
          go_wp2_with fail
          go_meet
          refine ⟨vx, nx, _, rfl, rfl, ?_, ?_, ?_⟩
          · first
              | with_reducible exact Blk.new _ _ _
              | exact (((((HBK.out.set_ 0 _).set_ 1 _).set_ 2 _).set_ 3 _).set_ 4 _).set_ 5 _
          · refine Lib.hid (VAt.any (VAt.keep HYV.out ?_ (fun b hb e => hb e)))
            repeat (first | with_reducible exact Only.refl _ _ | with_reducible refine Only.drew ?_ | with_reducible refine Only.alloc ?_ _ | with_reducible refine Only.setCell ?_ (Or.inl ?_) _ | exact rfl)
          · exact Lib.hid (by repeat (first | with_reducible exact HOX.out | with_reducible exact Only.refl _ _ | with_reducible refine Only.drew ?_ | with_reducible refine Only.alloc ?_ _ | with_reducible refine Only.setCell ?_ (Or.inr ?_) _ | exact HN4.out | exact HN3.out | exact HN2.out))
      case rest =>
      obtain ⟨y, ny, Y, rfl, rfl, hby, HYV, HOX⟩ := hcut
      obtain ⟨wa, rfl⟩ : ∃ wa, wa = wc := ⟨_, rfl⟩
      have HBY : Hid (∀ w', Only Nobody wa w' → Blk w' Y 25 #[.int .i64 y.k, .int .i64 y.i, .int .i64 y.s, .string y.t, .slice y.la y.ln y.lc, .slice y.fa y.fn y.fc]) := Lib.hid fun w' h' => h'.blk hby (fun x => x)
      have HOA2 := Lib.hid (HO2.out.trans HOX.out)
      have HXA := Lib.hid (HX2.out.trans HOX.out)
      clear hby HX1 HO1 HX2 HO2 b0 b1 b2 b3 b4 b5 HOX HN2 HZ2 HOB
      have HVT : Hid (∀ w', Only Nobody wa w' → VAt w' Any_ ny y (if delE L T = 0 then dlT L T else VT.zero)) := Lib.hid fun w' h' => HYV.out.same h'
      obtain ⟨E, HE⟩ : ∃ E, Hid (delE L T = E) := ⟨_, Lib.hid rfl⟩
      rw [HE.out]
      go_wp2_with fail
      refine (rtxt_any A m c L wa (HP.out.same HOA2.out)).mono ?_
      rintro e w5 ⟨s5, rfl, _, ho5⟩
      have H5 := Lib.hid ho5
      clear ho5
      cases hok : okL L with
      | false =>
        have hE3 : E = 3 := by rw [← HE.out]; unfold delE; rw [if_neg (by rw [hok]; simp)]
        subst hE3
        have y0 : w5.cell? ⟨Y, 0, none⟩ = some (.int .i64 y.k) := ((HBY.out w5 H5.out)).cell 0
        have y1 : w5.cell? ⟨Y, 1, none⟩ = some (.int .i64 y.i) := ((HBY.out w5 H5.out)).cell 1
        have y2 : w5.cell? ⟨Y, 2, none⟩ = some (.int .i64 y.s) := ((HBY.out w5 H5.out)).cell 2
        have y3 : w5.cell? ⟨Y, 3, none⟩ = some (.string y.t) := ((HBY.out w5 H5.out)).cell 3
        have y4 : w5.cell? ⟨Y, 4, none⟩ = some (.slice y.la y.ln y.lc) := ((HBY.out w5 H5.out)).cell 4
        have y5 : w5.cell? ⟨Y, 5, none⟩ = some (.slice y.fa y.fn y.fc) := ((HBY.out w5 H5.out)).cell 5
        have HZV : Hid (VAt w5 Any_ ny y VT.zero) := Lib.hid (by have := HVT.out _ H5.out; rw [HE.out] at this; exact this)
        go_wp2_with fail
        refine (same_eq (max ny 1) y zeroC VT.zero Any_ Any_ w5 (by decide +kernel) (HZV.out.le (by omega)) ((zero_at _ _ 0).le (by omega))).mono ?_
        rintro e w9 ⟨rfl, ho9⟩
        have HO9 := Lib.hid (H5.out.trans ho9)
        clear ho9 y0 y1 y2 y3 y4 y5
        go_wp2_with fail
        go_ret
        exact ⟨rfl, HOA2.out.trans HO9.out⟩
      | true =>
        have HOK := Lib.hid hok
        clear hok
        obtain ⟨k, hk⟩ : ∃ k, m = k + 1 := ⟨m - 1, by have := (okL_parts HOK.out).1; have := HP.out.len; omega⟩
        subst hk
        go_wp2_with fail
        refine (revery_any A (k + 1) c L hm w5 (HP.out.same (HOA2.out.trans H5.out))).mono ?_
        rintro e w6 ⟨rfl, ho6⟩
        have H6 := Lib.hid (H5.out.trans ho6)
        clear ho6
        cases hev : everyL L with
        | true =>
          have hE3 : E = 3 := by rw [← HE.out]; unfold delE; rw [if_neg (by rw [hev]; simp)]
          subst hE3
          have y0 : w6.cell? ⟨Y, 0, none⟩ = some (.int .i64 y.k) := ((HBY.out w6 H6.out)).cell 0
          have y1 : w6.cell? ⟨Y, 1, none⟩ = some (.int .i64 y.i) := ((HBY.out w6 H6.out)).cell 1
          have y2 : w6.cell? ⟨Y, 2, none⟩ = some (.int .i64 y.s) := ((HBY.out w6 H6.out)).cell 2
          have y3 : w6.cell? ⟨Y, 3, none⟩ = some (.string y.t) := ((HBY.out w6 H6.out)).cell 3
          have y4 : w6.cell? ⟨Y, 4, none⟩ = some (.slice y.la y.ln y.lc) := ((HBY.out w6 H6.out)).cell 4
          have y5 : w6.cell? ⟨Y, 5, none⟩ = some (.slice y.fa y.fn y.fc) := ((HBY.out w6 H6.out)).cell 5
          have HZV : Hid (VAt w6 Any_ ny y VT.zero) := Lib.hid (by have := HVT.out _ H6.out; rw [HE.out] at this; exact this)
          go_wp2_with fail
          refine (same_eq (max ny 1) y zeroC VT.zero Any_ Any_ w6 (by decide +kernel) (HZV.out.le (by omega)) ((zero_at _ _ 0).le (by omega))).mono ?_
          rintro e w9 ⟨rfl, ho9⟩
          have HO9 := Lib.hid (H6.out.trans ho9)
          clear ho9 y0 y1 y2 y3 y4 y5
          go_wp2_with fail
          go_ret
          exact ⟨rfl, HOA2.out.trans HO9.out⟩
        | false =>
          have HEV := Lib.hid hev
          clear hev
          obtain ⟨ad, rfl⟩ := HP.out.some_ (by omega)
          obtain ⟨pl, hpl⟩ : ∃ pl, L[k]? = some pl := ⟨_, List.getElem?_eq_getElem (by rw [HP.out.len]; omega)⟩
          obtain ⟨c0, _, _⟩ := (HP.out.same (HOA2.out.trans H6.out)).at_ hpl
          have HCB : Hid (caseB L = (pl.kind == 4)) := Lib.hid (by
            have h1 : L.getLast? = some pl := by rw [List.getLast?_eq_getElem?, HP.out.len]; exact hpl
            unfold caseB
            rw [h1])
          have hk0 : (0 : Int) ≤ (k : Int) := by omega
          have hkI : (k : Int) < ((k + 1 : Nat) : Int) := by omega
          have hksub : IntKind.i64.wrap (((k + 1 : Nat) : Int) - 1) = (k : Int) := by simp [IntKind.wrap, IntKind.signed, IntKind.bits]; omega
          obtain ⟨pk, hpk⟩ : ∃ pk, pl.kind = pk := ⟨_, rfl⟩
          rw [hpk] at c0 HCB
          clear hpl hpk
          by_cases h4 : pk = 4
          · subst h4
            have hE3 : E = 3 := by rw [← HE.out]; unfold delE; rw [if_neg (by rw [HCB.out]; simp)]
            subst hE3
            have y0 : w6.cell? ⟨Y, 0, none⟩ = some (.int .i64 y.k) := ((HBY.out w6 H6.out)).cell 0
            have y1 : w6.cell? ⟨Y, 1, none⟩ = some (.int .i64 y.i) := ((HBY.out w6 H6.out)).cell 1
            have y2 : w6.cell? ⟨Y, 2, none⟩ = some (.int .i64 y.s) := ((HBY.out w6 H6.out)).cell 2
            have y3 : w6.cell? ⟨Y, 3, none⟩ = some (.string y.t) := ((HBY.out w6 H6.out)).cell 3
            have y4 : w6.cell? ⟨Y, 4, none⟩ = some (.slice y.la y.ln y.lc) := ((HBY.out w6 H6.out)).cell 4
            have y5 : w6.cell? ⟨Y, 5, none⟩ = some (.slice y.fa y.fn y.fc) := ((HBY.out w6 H6.out)).cell 5
            have HZV : Hid (VAt w6 Any_ ny y VT.zero) := Lib.hid (by have := HVT.out _ H6.out; rw [HE.out] at this; exact this)
            go_wp2_with fail
            refine (same_eq (max ny 1) y zeroC VT.zero Any_ Any_ w6 (by decide +kernel) (HZV.out.le (by omega)) ((zero_at _ _ 0).le (by omega))).mono ?_
            rintro e w9 ⟨rfl, ho9⟩
            have HO9 := Lib.hid (H6.out.trans ho9)
            clear ho9 y0 y1 y2 y3 y4 y5
            go_wp2_with fail
            go_ret
            exact ⟨rfl, HOA2.out.trans HO9.out⟩
          · have h4B : (pk == 4) = false := by simpa using h4
            have HCF : Hid (caseB L = false) := Lib.hid (by rw [HCB.out]; exact h4B)
            have HEF : Hid (findE T L = E) := Lib.hid (by rw [← HE.out]; unfold delE; rw [if_pos ⟨HOK.out, HEV.out, HCF.out⟩]; exact (dlE_eq HOK.out HEV.out).symm)
            have HDL : Hid (dlE L T = E) := Lib.hid (by rw [dlE_eq HOK.out HEV.out]; exact HEF.out)
            have HOB : Hid (Only Nobody w w6) := Lib.hid (HOA2.out.trans H6.out)
            have HOX : Hid (Only Nobody w6 w6) := Lib.hid (Only.refl _ _)
            have HN2 : Hid (w6.heap.size ≤ w6.heap.size) := Lib.hid (Nat.le_refl _)
            have HZ2 : Hid (∀ w', Only Nobody (w6.alloc (.cells #[.int .i64 0, .int .i64 0, .int .i64 0, .string ⟨#[]⟩, .slice none 0 0, .slice none 0 0] 25)) w' → Blk w' w6.heap.size 25 #[.int .i64 0, .int .i64 0, .int .i64 0, .string ⟨#[]⟩, .slice none 0 0, .slice none 0 0]) := Lib.hid fun w' h' => h'.blk (Blk.new w6 _ _) (fun x => x)
            obtain ⟨b0, b1, b2, b3, b4, b5⟩ := HBV.out w6 (HXA.out.trans H6.out)
            go_upto_region 7 with fail
            go_cut [9, 10] (fun x e wx => (∃ xa, x = .pointer (some xa)) ∧ e = .int .i64 E ∧ Hid (Only Nobody w6 wx))
            case first =>
              go_wp2_with fail
              refine (rget_any v T S n (some ad) (k + 1) c L _ (fit_one HEV.out HSZ.out) (HV.out.same (HOB.out.trans (by repeat (first | with_reducible exact HOX.out | with_reducible exact Only.refl _ _ | with_reducible refine Only.drew ?_ | with_reducible refine Only.alloc ?_ _ | with_reducible refine Only.setCell ?_ (Or.inr ?_) _ | exact HN4.out | exact HN3.out | exact HN2.out)))) (HP.out.same (HOB.out.trans (by repeat (first | with_reducible exact HOX.out | with_reducible exact Only.refl _ _ | with_reducible refine Only.drew ?_ | with_reducible refine Only.alloc ?_ _ | with_reducible refine Only.setCell ?_ (Or.inr ?_) _ | exact HN4.out | exact HN3.out | exact HN2.out)))) hm).mono ?_
              rintro e w4 ⟨vx, rfl, hvx, ho4⟩
              rw [HEF.out]
              have HOX : Hid (Only Nobody w6 w4) := Lib.hid (Only.trans (by repeat (first | with_reducible exact HOX.out | with_reducible exact Only.refl _ _ | with_reducible refine Only.drew ?_ | with_reducible refine Only.alloc ?_ _ | with_reducible refine Only.setCell ?_ (Or.inr ?_) _ | exact HN4.out | exact HN3.out | exact HN2.out)) ho4)
              have HN4 : Hid (w6.heap.size ≤ w4.heap.size) := Lib.hid HOX.out.size
              have HBK := Lib.hid (Blk.new w4 25 #[.int .i64 0, .int .i64 0, .int .i64 0, .string ⟨#[]⟩, .slice none 0 0, .slice none 0 0])
              clear ho4 hvx
              go_wp2_with fail
              go_meet
              exact ⟨⟨_, rfl⟩, rfl, Lib.hid (by repeat (first | with_reducible exact HOX.out | with_reducible exact Only.refl _ _ | with_reducible refine Only.drew ?_ | with_reducible refine Only.alloc ?_ _ | with_reducible refine Only.setCell ?_ (Or.inr ?_) _ | exact HN4.out | exact HN3.out | exact HN2.out))⟩
            case rest =>
            obtain ⟨⟨xa, rfl⟩, rfl, HOX⟩ := hcut
            obtain ⟨wb, rfl⟩ : ∃ wa, wa = wc := ⟨_, rfl⟩
            have H7 := Lib.hid (H6.out.trans HOX.out)
            have HO7 := Lib.hid (HOA2.out.trans H7.out)
            clear HOX HN2 HZ2 HOB b0 b1 b2 b3 b4 b5 c0
            have HBW : Hid (∀ w', Only Nobody wb w' → w'.cell? ⟨w.heap.size, 0, none⟩ = some (.int .i64 v.k) ∧ w'.cell? ⟨w.heap.size, 1, none⟩ = some (.int .i64 v.i) ∧ w'.cell? ⟨w.heap.size, 2, none⟩ = some (.int .i64 v.s) ∧ w'.cell? ⟨w.heap.size, 3, none⟩ = some (.string v.t) ∧ w'.cell? ⟨w.heap.size, 4, none⟩ = some (.slice v.la v.ln v.lc) ∧ w'.cell? ⟨w.heap.size, 5, none⟩ = some (.slice v.fa v.fn v.fc)) := Lib.hid fun w' h' => HBV.out w' ((HXA.out.trans H7.out).trans h')
            by_cases h0 : E = 0
            · subst h0
              have hcm : k + 1 ≤ c := hmc
              have HSY : Hid (∀ w', Only Nobody wb w' → (w'.cell? ⟨w.heap.size, 0, none⟩ = some (.int .i64 v.k) ∧ w'.cell? ⟨w.heap.size, 1, none⟩ = some (.int .i64 v.i) ∧ w'.cell? ⟨w.heap.size, 2, none⟩ = some (.int .i64 v.s) ∧ w'.cell? ⟨w.heap.size, 3, none⟩ = some (.string v.t) ∧ w'.cell? ⟨w.heap.size, 4, none⟩ = some (.slice v.la v.ln v.lc) ∧ w'.cell? ⟨w.heap.size, 5, none⟩ = some (.slice v.fa v.fn v.fc)) ∧ (w'.cell? ⟨Y, 0, none⟩ = some (.int .i64 y.k) ∧ w'.cell? ⟨Y, 1, none⟩ = some (.int .i64 y.i) ∧ w'.cell? ⟨Y, 2, none⟩ = some (.int .i64 y.s) ∧ w'.cell? ⟨Y, 3, none⟩ = some (.string y.t) ∧ w'.cell? ⟨Y, 4, none⟩ = some (.slice y.la y.ln y.lc) ∧ w'.cell? ⟨Y, 5, none⟩ = some (.slice y.fa y.fn y.fc))) := Lib.hid fun w' h' => ⟨HBW.out w' h', by
                have hb := HBY.out w' (H7.out.trans h')
                exact ⟨hb.cell 0, hb.cell 1, hb.cell 2, hb.cell 3, hb.cell 4, hb.cell 5⟩⟩
              have HYT : Hid (∀ w', Only Nobody wb w' → VAt w' Any_ ny y (dlT L T)) := Lib.hid fun w' h' => by
                have := HVT.out w' (H7.out.trans h')
                rw [HE.out, if_pos rfl] at this
                exact this
              have HDZ : Hid ((dlT L T).size ≤ 140737488351232) := Lib.hid (Nat.le_trans (dlT_size L T) HSZ.out)
              have HRD : Hid (RdAt L T) := Lib.hid (rdelete_any L T (by intro e; have := HP.out.len; rw [e] at this; cases this) (okL_parts HOK.out).2.2.1 HEV.out (caseB_no HCF.out))
              have HOX := Lib.hid (Only.refl Nobody wb)
              obtain ⟨⟨b0, b1, b2, b3, b4, b5⟩, ⟨y0, y1, y2, y3, y4, y5⟩⟩ := HSY.out wb HOX.out
              go_upto_region 17 with fail
              go_region_held3 (fun w' => (w'.cell? ⟨w.heap.size, 0, none⟩ = some (.int .i64 v.k) ∧ w'.cell? ⟨w.heap.size, 1, none⟩ = some (.int .i64 v.i) ∧ w'.cell? ⟨w.heap.size, 2, none⟩ = some (.int .i64 v.s) ∧ w'.cell? ⟨w.heap.size, 3, none⟩ = some (.string v.t) ∧ w'.cell? ⟨w.heap.size, 4, none⟩ = some (.slice v.la v.ln v.lc) ∧ w'.cell? ⟨w.heap.size, 5, none⟩ = some (.slice v.fa v.fn v.fc)) ∧ (w'.cell? ⟨Y, 0, none⟩ = some (.int .i64 y.k) ∧ w'.cell? ⟨Y, 1, none⟩ = some (.int .i64 y.i) ∧ w'.cell? ⟨Y, 2, none⟩ = some (.int .i64 y.s) ∧ w'.cell? ⟨Y, 3, none⟩ = some (.string y.t) ∧ w'.cell? ⟨Y, 4, none⟩ = some (.slice y.la y.ln y.lc) ∧ w'.cell? ⟨Y, 5, none⟩ = some (.slice y.fa y.fn y.fc))) (exact HSY.out _ (by repeat (first | with_reducible exact HOX.out | with_reducible exact Only.refl _ _ | with_reducible refine Only.drew ?_ | with_reducible refine Only.alloc ?_ _))) (first
                | (go_at_call 13; refine (HRD.out v S n (some ad) (k + 1) c _ HSZ.out hm hcm HDL.out (HV.out.same (HO7.out.trans (by repeat (first | with_reducible exact HOX.out | with_reducible exact Only.refl _ _ | with_reducible refine Only.drew ?_ | with_reducible refine Only.alloc ?_ _)))) (HP.out.same (HO7.out.trans (by repeat (first | with_reducible exact HOX.out | with_reducible exact Only.refl _ _ | with_reducible refine Only.drew ?_ | with_reducible refine Only.alloc ?_ _))))).mono ?_; rintro e w4 ⟨z, nz, rfl, hz, ho4⟩; have HZ := Lib.hid hz.any; have HOX : Hid (Only Nobody wb w4) := Lib.hid (Only.trans (by repeat (first | with_reducible exact HOX.out | with_reducible exact Only.refl _ _ | with_reducible refine Only.drew ?_ | with_reducible refine Only.alloc ?_ _)) ho4); clear hz ho4)
                | (go_at_call 10; refine (same_eq (max ny nz) y z (dlT L T) Any_ Any_ _ HDZ.out ((HYT.out _ (by repeat (first | with_reducible exact HOX.out | with_reducible exact Only.refl _ _ | with_reducible refine Only.drew ?_ | with_reducible refine Only.alloc ?_ _))).le (by omega)) ((HZ.out.same (by repeat (first | with_reducible exact Only.refl _ _ | with_reducible refine Only.drew ?_ | with_reducible refine Only.alloc ?_ _))).le (by omega))).mono ?_; rintro e w5 ⟨rfl, ho5⟩; have HOX : Hid (Only Nobody wb w5) := Lib.hid (Only.trans (by repeat (first | with_reducible exact HOX.out | with_reducible exact Only.refl _ _ | with_reducible refine Only.drew ?_ | with_reducible refine Only.alloc ?_ _)) ho5); clear ho5))
              all_goals
                go_wp2_with fail
                go_ret
                exact ⟨rfl, HO7.out.trans (by repeat (first | with_reducible exact HOX.out | with_reducible exact Only.refl _ _ | with_reducible refine Only.drew ?_ | with_reducible refine Only.alloc ?_ _))⟩
            · have hE0 : (E != 0) = true := by simpa using h0
              have hE1 : (E == 0) = false := by simpa using h0
              have hEE : (E != E) = false := by simp
              have hEE1 : (E == E) = true := by simp
              have HYT : Hid (VAt wb Any_ ny y VT.zero) := Lib.hid (by
                have := HVT.out wb H7.out
                rw [HE.out, if_neg h0] at this
                exact this)
              have y0 : wb.cell? ⟨Y, 0, none⟩ = some (.int .i64 y.k) := ((HBY.out wb H7.out)).cell 0
              have y1 : wb.cell? ⟨Y, 1, none⟩ = some (.int .i64 y.i) := ((HBY.out wb H7.out)).cell 1
              have y2 : wb.cell? ⟨Y, 2, none⟩ = some (.int .i64 y.s) := ((HBY.out wb H7.out)).cell 2
              have y3 : wb.cell? ⟨Y, 3, none⟩ = some (.string y.t) := ((HBY.out wb H7.out)).cell 3
              have y4 : wb.cell? ⟨Y, 4, none⟩ = some (.slice y.la y.ln y.lc) := ((HBY.out wb H7.out)).cell 4
              have y5 : wb.cell? ⟨Y, 5, none⟩ = some (.slice y.fa y.fn y.fc) := ((HBY.out wb H7.out)).cell 5
              go_wp2_with fail
              refine (same_eq (max ny 1) y zeroC VT.zero Any_ Any_ wb (by decide +kernel) (HYT.out.le (by omega)) ((zero_at _ _ 0).le (by omega))).mono ?_
              rintro e w8 ⟨rfl, ho8⟩
              have H8 := Lib.hid ho8
              have HO8 := Lib.hid (HO7.out.trans ho8)
              clear ho8 y0 y1 y2 y3 y4 y5
              have HOB : Hid (Only Nobody w w8) := Lib.hid (HO8.out)
              have HOX : Hid (Only Nobody w8 w8) := Lib.hid (Only.refl _ _)
              have HN2 : Hid (w8.heap.size ≤ w8.heap.size) := Lib.hid (Nat.le_refl _)
              have HZ2 : Hid (∀ w', Only Nobody (w8.alloc (.cells #[.int .i64 0, .int .i64 0, .int .i64 0, .string ⟨#[]⟩, .slice none 0 0, .slice none 0 0] 25)) w' → Blk w' w8.heap.size 25 #[.int .i64 0, .int .i64 0, .int .i64 0, .string ⟨#[]⟩, .slice none 0 0, .slice none 0 0]) := Lib.hid fun w' h' => h'.blk (Blk.new w8 _ _) (fun x => x)
              obtain ⟨b0, b1, b2, b3, b4, b5⟩ := HBW.out w8 H8.out
              go_upto_region 11 with fail
              go_cut [11, 12] (fun x e wx => ∃ (vx : VC) (nx X : Nat) (er : Int) (T' : VT), x = .pointer (some ⟨X, 0, none⟩) ∧ e = .int .i64 er ∧ Blk wx X 25 #[.int .i64 vx.k, .int .i64 vx.i, .int .i64 vx.s, .string vx.t, .slice vx.la vx.ln vx.lc, .slice vx.fa vx.fn vx.fc] ∧ Hid (er = 0 → ChR L T boolT 0 T') ∧ Hid (er = 0 → VAt wx Any_ nx vx T') ∧ Hid (Only Nobody w8 wx))
              case first =>
                go_region_held3 (fun w' => w'.cell? ⟨w.heap.size, 0, none⟩ = some (.int .i64 v.k) ∧ w'.cell? ⟨w.heap.size, 1, none⟩ = some (.int .i64 v.i) ∧ w'.cell? ⟨w.heap.size, 2, none⟩ = some (.int .i64 v.s) ∧ w'.cell? ⟨w.heap.size, 3, none⟩ = some (.string v.t) ∧ w'.cell? ⟨w.heap.size, 4, none⟩ = some (.slice v.la v.ln v.lc) ∧ w'.cell? ⟨w.heap.size, 5, none⟩ = some (.slice v.fa v.fn v.fc)) (exact HBW.out _ (H8.out.trans (by repeat (first | with_reducible exact HOX.out | with_reducible exact Only.refl _ _ | with_reducible refine Only.drew ?_ | with_reducible refine Only.alloc ?_ _ | with_reducible refine Only.setCell ?_ (Or.inr ?_) _ | exact HN4.out | exact HN3.out | exact HN2.out)))) (first
                  | (go_at_call 7; refine (own_ptc (some ad) (k + 1) c L _ hm (HP.out.same (HOB.out.trans (by repeat (first | with_reducible exact HOX.out | with_reducible exact Only.refl _ _ | with_reducible refine Only.drew ?_ | with_reducible refine Only.alloc ?_ _ | with_reducible refine Only.setCell ?_ (Or.inr ?_) _ | exact HN4.out | exact HN3.out | exact HN2.out))))).mono ?_; rintro e w3 ⟨Y3, s3, rfl, hms3, hp3, ho3⟩; have HP3 := Lib.hid hp3; have HZ3 : Hid (∀ w', Only Nobody (w3.alloc (.cells #[.int .i64 0, .int .i64 0, .int .i64 0, .string ⟨#[]⟩, .slice none 0 0, .slice none 0 0] 25)) w' → Blk w' w3.heap.size 25 #[.int .i64 0, .int .i64 0, .int .i64 0, .string ⟨#[]⟩, .slice none 0 0, .slice none 0 0]) := Lib.hid fun w' h' => h'.blk (Blk.new w3 _ _) (fun x => x); (first | (with_reducible have HBQ := Lib.hid (HZ2.out w3 ho3)) | (have HBQ := Lib.hid (HZ2.out w3 (Only.trans (Only.refl _ _).drew ho3))) | skip); have HOX : Hid (Only Nobody w8 w3) := Lib.hid (Only.trans (by repeat (first | with_reducible exact HOX.out | with_reducible exact Only.refl _ _ | with_reducible refine Only.drew ?_ | with_reducible refine Only.alloc ?_ _ | with_reducible refine Only.setCell ?_ (Or.inr ?_) _ | exact HN4.out | exact HN3.out | exact HN2.out)) ho3); have HN3 : Hid (w8.heap.size ≤ w3.heap.size) := Lib.hid HOX.out.size; clear hp3 ho3)
                  | (go_at_call 12; refine (set_any v boolC T boolT S (n + 1) Y3 (k + 1) s3 L _ HTS.out (by rw [bool_size]; omega) hm hms3 ((HV.out.same (HOB.out.trans (by repeat (first | with_reducible exact HOX.out | with_reducible exact Only.refl _ _ | with_reducible refine Only.drew ?_ | with_reducible refine Only.alloc ?_ _ | with_reducible refine Only.setCell ?_ (Or.inr ?_) _ | exact HN4.out | exact HN3.out | exact HN2.out)))).up) (bool_at _ S n) (HP3.out.same (by repeat (first | with_reducible exact Only.refl _ _ | with_reducible refine Only.drew ?_ | with_reducible refine Only.alloc ?_ _))) (HS.out.same (HOB.out.trans (by repeat (first | with_reducible exact HOX.out | with_reducible exact Only.refl _ _ | with_reducible refine Only.drew ?_ | with_reducible refine Only.alloc ?_ _ | with_reducible refine Only.setCell ?_ (Or.inr ?_) _ | exact HN4.out | exact HN3.out | exact HN2.out)))).tab).mono ?_; rintro e w4 ⟨er, vx, T', nx, rfl, hset, _, ho4⟩; unfold retV; have HCH : Hid (er = 0 → ChR L T boolT 0 T') := Lib.hid fun h0 => (hset h0).2.2.1; have hvx := fun h0 => (hset h0).2.2.2; (first | ((with_reducible have HBK := Lib.hid (HZ3.out w4 ho4)); have r0 : w4.cell? ⟨w3.heap.size, 0, none⟩ = some (.int .i64 0) := HBK.out.cell 0; have f0 : w4.frozen? ⟨w3.heap.size, 0, none⟩ = false := HBK.out.frozen 0; have r1 : w4.cell? ⟨w3.heap.size, 1, none⟩ = some (.int .i64 0) := HBK.out.cell 1; have f1 : w4.frozen? ⟨w3.heap.size, 1, none⟩ = false := HBK.out.frozen 1; have r2 : w4.cell? ⟨w3.heap.size, 2, none⟩ = some (.int .i64 0) := HBK.out.cell 2; have f2 : w4.frozen? ⟨w3.heap.size, 2, none⟩ = false := HBK.out.frozen 2; have r3 : w4.cell? ⟨w3.heap.size, 3, none⟩ = some (.string ⟨#[]⟩) := HBK.out.cell 3; have f3 : w4.frozen? ⟨w3.heap.size, 3, none⟩ = false := HBK.out.frozen 3; have r4 : w4.cell? ⟨w3.heap.size, 4, none⟩ = some (.slice none 0 0) := HBK.out.cell 4; have f4 : w4.frozen? ⟨w3.heap.size, 4, none⟩ = false := HBK.out.frozen 4; have r5 : w4.cell? ⟨w3.heap.size, 5, none⟩ = some (.slice none 0 0) := HBK.out.cell 5; have f5 : w4.frozen? ⟨w3.heap.size, 5, none⟩ = false := HBK.out.frozen 5; have HYV : Hid (er = 0 → VAt w4 (fun b => b ≠ w3.heap.size) nx vx T') := Lib.hid (fun h0 => (hvx h0).mono fun b hb hs => (by intro e; subst e; simp at hs <;> omega))) | (have HBK := Lib.hid (ho4.blk HBQ.out (fun x => x)); have r0 : w4.cell? ⟨w8.heap.size, 0, none⟩ = some (.int .i64 0) := HBK.out.cell 0; have f0 : w4.frozen? ⟨w8.heap.size, 0, none⟩ = false := HBK.out.frozen 0; have r1 : w4.cell? ⟨w8.heap.size, 1, none⟩ = some (.int .i64 0) := HBK.out.cell 1; have f1 : w4.frozen? ⟨w8.heap.size, 1, none⟩ = false := HBK.out.frozen 1; have r2 : w4.cell? ⟨w8.heap.size, 2, none⟩ = some (.int .i64 0) := HBK.out.cell 2; have f2 : w4.frozen? ⟨w8.heap.size, 2, none⟩ = false := HBK.out.frozen 2; have r3 : w4.cell? ⟨w8.heap.size, 3, none⟩ = some (.string ⟨#[]⟩) := HBK.out.cell 3; have f3 : w4.frozen? ⟨w8.heap.size, 3, none⟩ = false := HBK.out.frozen 3; have r4 : w4.cell? ⟨w8.heap.size, 4, none⟩ = some (.slice none 0 0) := HBK.out.cell 4; have f4 : w4.frozen? ⟨w8.heap.size, 4, none⟩ = false := HBK.out.frozen 4; have r5 : w4.cell? ⟨w8.heap.size, 5, none⟩ = some (.slice none 0 0) := HBK.out.cell 5; have f5 : w4.frozen? ⟨w8.heap.size, 5, none⟩ = false := HBK.out.frozen 5; have HYV : Hid (er = 0 → VAt w4 (fun b => b ≠ w8.heap.size) nx vx T') := Lib.hid (fun h0 => (hvx h0).mono fun b hb hs => (by intro e; subst e; have := HBQ.out.lt; omega))) | (have HBK := Lib.hid (Blk.new w4 25 #[.int .i64 0, .int .i64 0, .int .i64 0, .string ⟨#[]⟩, .slice none 0 0, .slice none 0 0]); have r0 : (w4.alloc (.cells #[.int .i64 0, .int .i64 0, .int .i64 0, .string ⟨#[]⟩, .slice none 0 0, .slice none 0 0] 25)).cell? ⟨w4.heap.size, 0, none⟩ = some (.int .i64 0) := HBK.out.cell 0; have f0 : (w4.alloc (.cells #[.int .i64 0, .int .i64 0, .int .i64 0, .string ⟨#[]⟩, .slice none 0 0, .slice none 0 0] 25)).frozen? ⟨w4.heap.size, 0, none⟩ = false := HBK.out.frozen 0; have r1 : (w4.alloc (.cells #[.int .i64 0, .int .i64 0, .int .i64 0, .string ⟨#[]⟩, .slice none 0 0, .slice none 0 0] 25)).cell? ⟨w4.heap.size, 1, none⟩ = some (.int .i64 0) := HBK.out.cell 1; have f1 : (w4.alloc (.cells #[.int .i64 0, .int .i64 0, .int .i64 0, .string ⟨#[]⟩, .slice none 0 0, .slice none 0 0] 25)).frozen? ⟨w4.heap.size, 1, none⟩ = false := HBK.out.frozen 1; have r2 : (w4.alloc (.cells #[.int .i64 0, .int .i64 0, .int .i64 0, .string ⟨#[]⟩, .slice none 0 0, .slice none 0 0] 25)).cell? ⟨w4.heap.size, 2, none⟩ = some (.int .i64 0) := HBK.out.cell 2; have f2 : (w4.alloc (.cells #[.int .i64 0, .int .i64 0, .int .i64 0, .string ⟨#[]⟩, .slice none 0 0, .slice none 0 0] 25)).frozen? ⟨w4.heap.size, 2, none⟩ = false := HBK.out.frozen 2; have r3 : (w4.alloc (.cells #[.int .i64 0, .int .i64 0, .int .i64 0, .string ⟨#[]⟩, .slice none 0 0, .slice none 0 0] 25)).cell? ⟨w4.heap.size, 3, none⟩ = some (.string ⟨#[]⟩) := HBK.out.cell 3; have f3 : (w4.alloc (.cells #[.int .i64 0, .int .i64 0, .int .i64 0, .string ⟨#[]⟩, .slice none 0 0, .slice none 0 0] 25)).frozen? ⟨w4.heap.size, 3, none⟩ = false := HBK.out.frozen 3; have r4 : (w4.alloc (.cells #[.int .i64 0, .int .i64 0, .int .i64 0, .string ⟨#[]⟩, .slice none 0 0, .slice none 0 0] 25)).cell? ⟨w4.heap.size, 4, none⟩ = some (.slice none 0 0) := HBK.out.cell 4; have f4 : (w4.alloc (.cells #[.int .i64 0, .int .i64 0, .int .i64 0, .string ⟨#[]⟩, .slice none 0 0, .slice none 0 0] 25)).frozen? ⟨w4.heap.size, 4, none⟩ = false := HBK.out.frozen 4; have r5 : (w4.alloc (.cells #[.int .i64 0, .int .i64 0, .int .i64 0, .string ⟨#[]⟩, .slice none 0 0, .slice none 0 0] 25)).cell? ⟨w4.heap.size, 5, none⟩ = some (.slice none 0 0) := HBK.out.cell 5; have f5 : (w4.alloc (.cells #[.int .i64 0, .int .i64 0, .int .i64 0, .string ⟨#[]⟩, .slice none 0 0, .slice none 0 0] 25)).frozen? ⟨w4.heap.size, 5, none⟩ = false := HBK.out.frozen 5; have HYV : Hid (er = 0 → VAt w4 (fun b => b ≠ w4.heap.size) nx vx T') := Lib.hid (fun h0 => (hvx h0).mono fun b hb hs => (by omega)))); have HOX : Hid (Only Nobody w8 w4) := Lib.hid (Only.trans (by repeat (first | with_reducible exact HOX.out | with_reducible exact Only.refl _ _ | with_reducible refine Only.drew ?_ | with_reducible refine Only.alloc ?_ _ | with_reducible refine Only.setCell ?_ (Or.inr ?_) _ | exact HN4.out | exact HN3.out | exact HN2.out)) ho4); have HN4 : Hid (w8.heap.size ≤ w4.heap.size) := Lib.hid HOX.out.size; clear hvx hset ho4))
                all_goals
                  go_wp2_with fail
                  go_meet
                  refine ⟨vx, nx, _, er, T', rfl, rfl, ?_, HCH, ?_, ?_⟩
                  · first
                      | with_reducible exact Blk.new _ _ _
                      | exact (((((HBK.out.set_ 0 _).set_ 1 _).set_ 2 _).set_ 3 _).set_ 4 _).set_ 5 _
                  · refine Lib.hid (fun h0 => VAt.any (VAt.keep (HYV.out h0) ?_ (fun b hb e => hb e)))
                    repeat (first | with_reducible exact Only.refl _ _ | with_reducible refine Only.drew ?_ | with_reducible refine Only.alloc ?_ _ | with_reducible refine Only.setCell ?_ (Or.inl ?_) _ | exact rfl)
                  · exact Lib.hid (by repeat (first | with_reducible exact HOX.out | with_reducible exact Only.refl _ _ | with_reducible refine Only.drew ?_ | with_reducible refine Only.alloc ?_ _ | with_reducible refine Only.setCell ?_ (Or.inr ?_) _ | exact HN4.out | exact HN3.out | exact HN2.out))
              case rest =>
              obtain ⟨x, nx, X, er, T', rfl, rfl, hbx, HCH, HXV, HOX⟩ := hcut
              obtain ⟨w9, rfl⟩ : ∃ wa, wa = wc := ⟨_, rfl⟩
              have HBX : Hid (∀ w', Only Nobody w9 w' → Blk w' X 25 #[.int .i64 x.k, .int .i64 x.i, .int .i64 x.s, .string x.t, .slice x.la x.ln x.lc, .slice x.fa x.fn x.fc]) := Lib.hid fun w' h' => h'.blk hbx (fun x => x)
              have H9 := Lib.hid (H8.out.trans HOX.out)
              have HO9 := Lib.hid (HO8.out.trans HOX.out)
              clear hbx b0 b1 b2 b3 b4 b5 HOX HN2 HZ2 HOB
              have HOB : Hid (Only Nobody w w9) := Lib.hid (HO9.out)
              have HOX : Hid (Only Nobody w9 w9) := Lib.hid (Only.refl _ _)
              have HN2 : Hid (w9.heap.size ≤ w9.heap.size) := Lib.hid (Nat.le_refl _)
              have HZ2 : Hid (∀ w', Only Nobody (w9.alloc (.cells #[.int .i64 0, .int .i64 0, .int .i64 0, .string ⟨#[]⟩, .slice none 0 0, .slice none 0 0] 25)) w' → Blk w' w9.heap.size 25 #[.int .i64 0, .int .i64 0, .int .i64 0, .string ⟨#[]⟩, .slice none 0 0, .slice none 0 0]) := Lib.hid fun w' h' => h'.blk (Blk.new w9 _ _) (fun x => x)
              obtain ⟨b0, b1, b2, b3, b4, b5⟩ := HBW.out w9 H9.out
              have HPK : Hid (Pts w (some ad) k (L.take k)) := Lib.hid (HP.out.take_ (by omega))
              obtain ⟨F2, HF2⟩ : ∃ F2, Hid (findE T (L.take k) = F2) := ⟨_, Lib.hid rfl⟩
              have hkc : (k : Int) ≤ (c : Int) := by omega
              have hc0 : ¬ (c = 0) := by omega
              have hkcN : k ≤ c := by omega
              have hkw1 : IntKind.i64.wrap ((k : Int) + 1 - 1) = (k : Int) := by simp [IntKind.wrap, IntKind.signed, IntKind.bits]; omega
              have hkw2 : IntKind.i64.wrap (k : Int) = (k : Int) := by simp [IntKind.wrap, IntKind.signed, IntKind.bits]; omega
              have hkw3 : wrap64 ((k : Int) + 1 - 1) = (k : Int) := by unfold wrap64; omega
              have hc0I : ¬ ((c : Int) = 0) := by omega
              go_upto_region 12 with fail
              go_cut [13, 14] (fun x e wx => (∃ xb, x = .pointer (some xb)) ∧ e = .int .i64 F2 ∧ Hid (Only Nobody w9 wx))
              case first =>
                go_region_held3 (fun w' => w'.cell? ⟨w.heap.size, 0, none⟩ = some (.int .i64 v.k) ∧ w'.cell? ⟨w.heap.size, 1, none⟩ = some (.int .i64 v.i) ∧ w'.cell? ⟨w.heap.size, 2, none⟩ = some (.int .i64 v.s) ∧ w'.cell? ⟨w.heap.size, 3, none⟩ = some (.string v.t) ∧ w'.cell? ⟨w.heap.size, 4, none⟩ = some (.slice v.la v.ln v.lc) ∧ w'.cell? ⟨w.heap.size, 5, none⟩ = some (.slice v.fa v.fn v.fc)) (exact HBW.out _ (H9.out.trans (by repeat (first | with_reducible exact HOX.out | with_reducible exact Only.refl _ _ | with_reducible refine Only.drew ?_ | with_reducible refine Only.alloc ?_ _ | with_reducible refine Only.setCell ?_ (Or.inr ?_) _ | exact HN4.out | exact HN3.out | exact HN2.out)))) (first
                  | (go_at_call 11; refine (rget_any v T S n (some ad) k c (L.take k) _ (fit_one (every_take HEV.out) HSZ.out) (HV.out.same (HOB.out.trans (by repeat (first | with_reducible exact HOX.out | with_reducible exact Only.refl _ _ | with_reducible refine Only.drew ?_ | with_reducible refine Only.alloc ?_ _ | with_reducible refine Only.setCell ?_ (Or.inr ?_) _ | exact HN4.out | exact HN3.out | exact HN2.out)))) (HPK.out.same (HOB.out.trans (by repeat (first | with_reducible exact HOX.out | with_reducible exact Only.refl _ _ | with_reducible refine Only.drew ?_ | with_reducible refine Only.alloc ?_ _ | with_reducible refine Only.setCell ?_ (Or.inr ?_) _ | exact HN4.out | exact HN3.out | exact HN2.out)))) (by omega)).mono ?_; rintro e w4 ⟨vx, rfl, hvx, ho4⟩; rw [HF2.out]; (first | ((first | (with_reducible have HBK := Lib.hid (HZ2.out w4 ho4)) | (have HBK := Lib.hid (HZ2.out w4 (Only.trans (Only.refl _ _).drew ho4)))); have r0 : w4.cell? ⟨w9.heap.size, 0, none⟩ = some (.int .i64 0) := HBK.out.cell 0; have f0 : w4.frozen? ⟨w9.heap.size, 0, none⟩ = false := HBK.out.frozen 0; have r1 : w4.cell? ⟨w9.heap.size, 1, none⟩ = some (.int .i64 0) := HBK.out.cell 1; have f1 : w4.frozen? ⟨w9.heap.size, 1, none⟩ = false := HBK.out.frozen 1; have r2 : w4.cell? ⟨w9.heap.size, 2, none⟩ = some (.int .i64 0) := HBK.out.cell 2; have f2 : w4.frozen? ⟨w9.heap.size, 2, none⟩ = false := HBK.out.frozen 2; have r3 : w4.cell? ⟨w9.heap.size, 3, none⟩ = some (.string ⟨#[]⟩) := HBK.out.cell 3; have f3 : w4.frozen? ⟨w9.heap.size, 3, none⟩ = false := HBK.out.frozen 3; have r4 : w4.cell? ⟨w9.heap.size, 4, none⟩ = some (.slice none 0 0) := HBK.out.cell 4; have f4 : w4.frozen? ⟨w9.heap.size, 4, none⟩ = false := HBK.out.frozen 4; have r5 : w4.cell? ⟨w9.heap.size, 5, none⟩ = some (.slice none 0 0) := HBK.out.cell 5; have f5 : w4.frozen? ⟨w9.heap.size, 5, none⟩ = false := HBK.out.frozen 5; have HYV : Hid (True) := Lib.hid (trivial)) | (have HBK := Lib.hid (Blk.new w4 25 #[.int .i64 0, .int .i64 0, .int .i64 0, .string ⟨#[]⟩, .slice none 0 0, .slice none 0 0]); have r0 : (w4.alloc (.cells #[.int .i64 0, .int .i64 0, .int .i64 0, .string ⟨#[]⟩, .slice none 0 0, .slice none 0 0] 25)).cell? ⟨w4.heap.size, 0, none⟩ = some (.int .i64 0) := HBK.out.cell 0; have f0 : (w4.alloc (.cells #[.int .i64 0, .int .i64 0, .int .i64 0, .string ⟨#[]⟩, .slice none 0 0, .slice none 0 0] 25)).frozen? ⟨w4.heap.size, 0, none⟩ = false := HBK.out.frozen 0; have r1 : (w4.alloc (.cells #[.int .i64 0, .int .i64 0, .int .i64 0, .string ⟨#[]⟩, .slice none 0 0, .slice none 0 0] 25)).cell? ⟨w4.heap.size, 1, none⟩ = some (.int .i64 0) := HBK.out.cell 1; have f1 : (w4.alloc (.cells #[.int .i64 0, .int .i64 0, .int .i64 0, .string ⟨#[]⟩, .slice none 0 0, .slice none 0 0] 25)).frozen? ⟨w4.heap.size, 1, none⟩ = false := HBK.out.frozen 1; have r2 : (w4.alloc (.cells #[.int .i64 0, .int .i64 0, .int .i64 0, .string ⟨#[]⟩, .slice none 0 0, .slice none 0 0] 25)).cell? ⟨w4.heap.size, 2, none⟩ = some (.int .i64 0) := HBK.out.cell 2; have f2 : (w4.alloc (.cells #[.int .i64 0, .int .i64 0, .int .i64 0, .string ⟨#[]⟩, .slice none 0 0, .slice none 0 0] 25)).frozen? ⟨w4.heap.size, 2, none⟩ = false := HBK.out.frozen 2; have r3 : (w4.alloc (.cells #[.int .i64 0, .int .i64 0, .int .i64 0, .string ⟨#[]⟩, .slice none 0 0, .slice none 0 0] 25)).cell? ⟨w4.heap.size, 3, none⟩ = some (.string ⟨#[]⟩) := HBK.out.cell 3; have f3 : (w4.alloc (.cells #[.int .i64 0, .int .i64 0, .int .i64 0, .string ⟨#[]⟩, .slice none 0 0, .slice none 0 0] 25)).frozen? ⟨w4.heap.size, 3, none⟩ = false := HBK.out.frozen 3; have r4 : (w4.alloc (.cells #[.int .i64 0, .int .i64 0, .int .i64 0, .string ⟨#[]⟩, .slice none 0 0, .slice none 0 0] 25)).cell? ⟨w4.heap.size, 4, none⟩ = some (.slice none 0 0) := HBK.out.cell 4; have f4 : (w4.alloc (.cells #[.int .i64 0, .int .i64 0, .int .i64 0, .string ⟨#[]⟩, .slice none 0 0, .slice none 0 0] 25)).frozen? ⟨w4.heap.size, 4, none⟩ = false := HBK.out.frozen 4; have r5 : (w4.alloc (.cells #[.int .i64 0, .int .i64 0, .int .i64 0, .string ⟨#[]⟩, .slice none 0 0, .slice none 0 0] 25)).cell? ⟨w4.heap.size, 5, none⟩ = some (.slice none 0 0) := HBK.out.cell 5; have f5 : (w4.alloc (.cells #[.int .i64 0, .int .i64 0, .int .i64 0, .string ⟨#[]⟩, .slice none 0 0, .slice none 0 0] 25)).frozen? ⟨w4.heap.size, 5, none⟩ = false := HBK.out.frozen 5; have HYV : Hid (True) := Lib.hid (trivial))); have HOX : Hid (Only Nobody w9 w4) := Lib.hid (Only.trans (by repeat (first | with_reducible exact HOX.out | with_reducible exact Only.refl _ _ | with_reducible refine Only.drew ?_ | with_reducible refine Only.alloc ?_ _ | with_reducible refine Only.setCell ?_ (Or.inr ?_) _ | exact HN4.out | exact HN3.out | exact HN2.out)) ho4); have HN4 : Hid (w9.heap.size ≤ w4.heap.size) := Lib.hid HOX.out.size; clear hvx ho4))
                all_goals
                  go_wp2_with fail
                  go_meet
                  exact ⟨⟨_, rfl⟩, rfl, Lib.hid (by repeat (first | with_reducible exact HOX.out | with_reducible exact Only.refl _ _ | with_reducible refine Only.drew ?_ | with_reducible refine Only.alloc ?_ _ | with_reducible refine Only.setCell ?_ (Or.inr ?_) _ | exact HN4.out | exact HN3.out | exact HN2.out))⟩
              case rest =>
              obtain ⟨⟨xb, rfl⟩, rfl, HOX⟩ := hcut
              obtain ⟨w10, rfl⟩ : ∃ wa, wa = wc := ⟨_, rfl⟩
              have H910 := Lib.hid HOX.out
              have H10 := Lib.hid (H9.out.trans HOX.out)
              have HO10 := Lib.hid (HO9.out.trans HOX.out)
              clear b0 b1 b2 b3 b4 b5 HOX HN2 HZ2 HOB
              by_cases h19 : E = 19
              · subst h19
                by_cases her : er = 0
                · subst her
                  by_cases hk1 : 0 < k ∧ F2 ≠ 0
                  · have hkI1 : (1 : Int) < ((k + 1 : Nat) : Int) := by omega
                    have hF0 : (F2 != 0) = true := by simpa using hk1.2
                    have hF1 : (F2 == 0) = false := by simpa using hk1.2
                    go_wp2_with fail
                    go_ret
                    exact ⟨rfl, HO10.out⟩
                  · have hprev : 1 < L.length → ∃ P, findT [T] L.dropLast = some [P] := fun h1 => by
                      have hl := HP.out.len
                      have hdl : L.dropLast = L.take k := by rw [List.dropLast_eq_take, hl]; rfl
                      rw [hdl]
                      refine one_find (by rw [← hdl]; exact every_drop HEV.out) ?_
                      rw [HF2.out]
                      have : 0 < k := by omega
                      exact Decidable.byContradiction fun e => hk1 ⟨this, e⟩
                    have HDS := Lib.hid (del_set (okL_parts HOK.out).2.2.1 HEV.out (HCH.out (by first | rfl | trivial)) (absent_find HOK.out HEF.out) hprev)
                    have HDE : Hid (delE L T' = 0) := Lib.hid (by unfold delE; rw [if_pos ⟨HOK.out, HEV.out, HCF.out⟩]; exact HDS.out.1)
                    have HT'S : Hid (T'.size ≤ 140737488351232) := Lib.hid (by
                      have h1 := ch_size (HCH.out (by first | rfl | trivial))
                      rw [bool_size] at h1
                      have := HSZ.out
                      omega)
                    have HXW : Hid (∀ w', Only Nobody w9 w' → VAt w' Any_ nx x T') := Lib.hid fun w' h' => (HXV.out (by first | rfl | trivial)).same h'
                    rcases Nat.eq_zero_or_pos k with hz | hz
                    · have hkI1 : ¬ (1 : Int) < ((k + 1 : Nat) : Int) := by omega
                      clear hz hk1 hprev
                      have HOB : Hid (Only Nobody w w10) := Lib.hid (HO10.out)
                      have HOX : Hid (Only Nobody w10 w10) := Lib.hid (Only.refl _ _)
                      have HN2 : Hid (w10.heap.size ≤ w10.heap.size) := Lib.hid (Nat.le_refl _)
                      have HZ2 : Hid (∀ w', Only Nobody (w10.alloc (.cells #[.int .i64 0, .int .i64 0, .int .i64 0, .string ⟨#[]⟩, .slice none 0 0, .slice none 0 0] 25)) w' → Blk w' w10.heap.size 25 #[.int .i64 0, .int .i64 0, .int .i64 0, .string ⟨#[]⟩, .slice none 0 0, .slice none 0 0]) := Lib.hid fun w' h' => h'.blk (Blk.new w10 _ _) (fun x => x)
                      have HSX : Hid (∀ w', Only Nobody w10 w' → w'.cell? ⟨X, 0, none⟩ = some (.int .i64 x.k) ∧ w'.cell? ⟨X, 1, none⟩ = some (.int .i64 x.i) ∧ w'.cell? ⟨X, 2, none⟩ = some (.int .i64 x.s) ∧ w'.cell? ⟨X, 3, none⟩ = some (.string x.t) ∧ w'.cell? ⟨X, 4, none⟩ = some (.slice x.la x.ln x.lc) ∧ w'.cell? ⟨X, 5, none⟩ = some (.slice x.fa x.fn x.fc)) := Lib.hid fun w' h' => by
                        have hb := HBX.out w' (H910.out.trans h')
                        exact ⟨hb.cell 0, hb.cell 1, hb.cell 2, hb.cell 3, hb.cell 4, hb.cell 5⟩
                      obtain ⟨b0, b1, b2, b3, b4, b5⟩ := HSX.out w10 HOX.out
                      go_upto_region 15 with fail
                      go_cut [15, 16] (fun z e wx => ∃ (vx : VC) (nz Zb : Nat), z = .pointer (some ⟨Zb, 0, none⟩) ∧ e = .int .i64 0 ∧ Blk wx Zb 25 #[.int .i64 vx.k, .int .i64 vx.i, .int .i64 vx.s, .string vx.t, .slice vx.la vx.ln vx.lc, .slice vx.fa vx.fn vx.fc] ∧ Hid (VAt wx Any_ nz vx T) ∧ Hid (Only Nobody w10 wx))
                      case first =>
                        go_region_held3 (fun w' => w'.cell? ⟨X, 0, none⟩ = some (.int .i64 x.k) ∧ w'.cell? ⟨X, 1, none⟩ = some (.int .i64 x.i) ∧ w'.cell? ⟨X, 2, none⟩ = some (.int .i64 x.s) ∧ w'.cell? ⟨X, 3, none⟩ = some (.string x.t) ∧ w'.cell? ⟨X, 4, none⟩ = some (.slice x.la x.ln x.lc) ∧ w'.cell? ⟨X, 5, none⟩ = some (.slice x.fa x.fn x.fc)) (exact HSX.out _ (by repeat (first | with_reducible exact HOX.out | with_reducible exact Only.refl _ _ | with_reducible refine Only.drew ?_ | with_reducible refine Only.alloc ?_ _ | with_reducible refine Only.setCell ?_ (Or.inr ?_) _ | exact HN4.out | exact HN3.out | exact HN2.out))) (first
                          | (go_at_call 7; refine (own_ptc (some ad) (k + 1) c L _ hm (HP.out.same (HOB.out.trans (by repeat (first | with_reducible exact HOX.out | with_reducible exact Only.refl _ _ | with_reducible refine Only.drew ?_ | with_reducible refine Only.alloc ?_ _ | with_reducible refine Only.setCell ?_ (Or.inr ?_) _ | exact HN4.out | exact HN3.out | exact HN2.out))))).mono ?_; rintro e w3 ⟨Y3, s3, rfl, hms3, hp3, ho3⟩; have HP3 := Lib.hid hp3; have HZ3 : Hid (∀ w', Only Nobody (w3.alloc (.cells #[.int .i64 0, .int .i64 0, .int .i64 0, .string ⟨#[]⟩, .slice none 0 0, .slice none 0 0] 25)) w' → Blk w' w3.heap.size 25 #[.int .i64 0, .int .i64 0, .int .i64 0, .string ⟨#[]⟩, .slice none 0 0, .slice none 0 0]) := Lib.hid fun w' h' => h'.blk (Blk.new w3 _ _) (fun x => x); (first | (with_reducible have HBQ := Lib.hid (HZ2.out w3 ho3)) | (have HBQ := Lib.hid (HZ2.out w3 (Only.trans (Only.refl _ _).drew ho3))) | skip); have HOX : Hid (Only Nobody w10 w3) := Lib.hid (Only.trans (by repeat (first | with_reducible exact HOX.out | with_reducible exact Only.refl _ _ | with_reducible refine Only.drew ?_ | with_reducible refine Only.alloc ?_ _ | with_reducible refine Only.setCell ?_ (Or.inr ?_) _ | exact HN4.out | exact HN3.out | exact HN2.out)) ho3); have HN3 : Hid (w10.heap.size ≤ w3.heap.size) := Lib.hid HOX.out.size; clear hp3 ho3)
                          | (go_at_call 6; refine (delete_any x T' Any_ nx Y3 (k + 1) s3 L _ HT'S.out hm hms3 (HXW.out _ (H910.out.trans (by repeat (first | with_reducible exact HOX.out | with_reducible exact Only.refl _ _ | with_reducible refine Only.drew ?_ | with_reducible refine Only.alloc ?_ _ | with_reducible refine Only.setCell ?_ (Or.inr ?_) _ | exact HN4.out | exact HN3.out | exact HN2.out)))) (HP3.out.same (by repeat (first | with_reducible exact Only.refl _ _ | with_reducible refine Only.drew ?_ | with_reducible refine Only.alloc ?_ _))) (HS.out.same (HOB.out.trans (by repeat (first | with_reducible exact HOX.out | with_reducible exact Only.refl _ _ | with_reducible refine Only.drew ?_ | with_reducible refine Only.alloc ?_ _ | with_reducible refine Only.setCell ?_ (Or.inr ?_) _ | exact HN4.out | exact HN3.out | exact HN2.out)))).tab).mono ?_; rintro e w4 ⟨vx, nz, rfl, hvx, ho4⟩; rw [HDE.out, if_pos rfl, HDS.out.2] at hvx; rw [HDE.out]; unfold retV; (first | ((with_reducible have HBK := Lib.hid (HZ3.out w4 ho4)); have r0 : w4.cell? ⟨w3.heap.size, 0, none⟩ = some (.int .i64 0) := HBK.out.cell 0; have f0 : w4.frozen? ⟨w3.heap.size, 0, none⟩ = false := HBK.out.frozen 0; have r1 : w4.cell? ⟨w3.heap.size, 1, none⟩ = some (.int .i64 0) := HBK.out.cell 1; have f1 : w4.frozen? ⟨w3.heap.size, 1, none⟩ = false := HBK.out.frozen 1; have r2 : w4.cell? ⟨w3.heap.size, 2, none⟩ = some (.int .i64 0) := HBK.out.cell 2; have f2 : w4.frozen? ⟨w3.heap.size, 2, none⟩ = false := HBK.out.frozen 2; have r3 : w4.cell? ⟨w3.heap.size, 3, none⟩ = some (.string ⟨#[]⟩) := HBK.out.cell 3; have f3 : w4.frozen? ⟨w3.heap.size, 3, none⟩ = false := HBK.out.frozen 3; have r4 : w4.cell? ⟨w3.heap.size, 4, none⟩ = some (.slice none 0 0) := HBK.out.cell 4; have f4 : w4.frozen? ⟨w3.heap.size, 4, none⟩ = false := HBK.out.frozen 4; have r5 : w4.cell? ⟨w3.heap.size, 5, none⟩ = some (.slice none 0 0) := HBK.out.cell 5; have f5 : w4.frozen? ⟨w3.heap.size, 5, none⟩ = false := HBK.out.frozen 5; have HYV : Hid (VAt w4 (fun b => b ≠ w3.heap.size) nz vx T) := Lib.hid (hvx.mono fun b hb hs => (by intro e; subst e; simp at hs <;> omega))) | (have HBK := Lib.hid (ho4.blk HBQ.out (fun x => x)); have r0 : w4.cell? ⟨w10.heap.size, 0, none⟩ = some (.int .i64 0) := HBK.out.cell 0; have f0 : w4.frozen? ⟨w10.heap.size, 0, none⟩ = false := HBK.out.frozen 0; have r1 : w4.cell? ⟨w10.heap.size, 1, none⟩ = some (.int .i64 0) := HBK.out.cell 1; have f1 : w4.frozen? ⟨w10.heap.size, 1, none⟩ = false := HBK.out.frozen 1; have r2 : w4.cell? ⟨w10.heap.size, 2, none⟩ = some (.int .i64 0) := HBK.out.cell 2; have f2 : w4.frozen? ⟨w10.heap.size, 2, none⟩ = false := HBK.out.frozen 2; have r3 : w4.cell? ⟨w10.heap.size, 3, none⟩ = some (.string ⟨#[]⟩) := HBK.out.cell 3; have f3 : w4.frozen? ⟨w10.heap.size, 3, none⟩ = false := HBK.out.frozen 3; have r4 : w4.cell? ⟨w10.heap.size, 4, none⟩ = some (.slice none 0 0) := HBK.out.cell 4; have f4 : w4.frozen? ⟨w10.heap.size, 4, none⟩ = false := HBK.out.frozen 4; have r5 : w4.cell? ⟨w10.heap.size, 5, none⟩ = some (.slice none 0 0) := HBK.out.cell 5; have f5 : w4.frozen? ⟨w10.heap.size, 5, none⟩ = false := HBK.out.frozen 5; have HYV : Hid (VAt w4 (fun b => b ≠ w10.heap.size) nz vx T) := Lib.hid (hvx.mono fun b hb hs => (by intro e; subst e; have := HBQ.out.lt; omega))) | (have HBK := Lib.hid (Blk.new w4 25 #[.int .i64 0, .int .i64 0, .int .i64 0, .string ⟨#[]⟩, .slice none 0 0, .slice none 0 0]); have r0 : (w4.alloc (.cells #[.int .i64 0, .int .i64 0, .int .i64 0, .string ⟨#[]⟩, .slice none 0 0, .slice none 0 0] 25)).cell? ⟨w4.heap.size, 0, none⟩ = some (.int .i64 0) := HBK.out.cell 0; have f0 : (w4.alloc (.cells #[.int .i64 0, .int .i64 0, .int .i64 0, .string ⟨#[]⟩, .slice none 0 0, .slice none 0 0] 25)).frozen? ⟨w4.heap.size, 0, none⟩ = false := HBK.out.frozen 0; have r1 : (w4.alloc (.cells #[.int .i64 0, .int .i64 0, .int .i64 0, .string ⟨#[]⟩, .slice none 0 0, .slice none 0 0] 25)).cell? ⟨w4.heap.size, 1, none⟩ = some (.int .i64 0) := HBK.out.cell 1; have f1 : (w4.alloc (.cells #[.int .i64 0, .int .i64 0, .int .i64 0, .string ⟨#[]⟩, .slice none 0 0, .slice none 0 0] 25)).frozen? ⟨w4.heap.size, 1, none⟩ = false := HBK.out.frozen 1; have r2 : (w4.alloc (.cells #[.int .i64 0, .int .i64 0, .int .i64 0, .string ⟨#[]⟩, .slice none 0 0, .slice none 0 0] 25)).cell? ⟨w4.heap.size, 2, none⟩ = some (.int .i64 0) := HBK.out.cell 2; have f2 : (w4.alloc (.cells #[.int .i64 0, .int .i64 0, .int .i64 0, .string ⟨#[]⟩, .slice none 0 0, .slice none 0 0] 25)).frozen? ⟨w4.heap.size, 2, none⟩ = false := HBK.out.frozen 2; have r3 : (w4.alloc (.cells #[.int .i64 0, .int .i64 0, .int .i64 0, .string ⟨#[]⟩, .slice none 0 0, .slice none 0 0] 25)).cell? ⟨w4.heap.size, 3, none⟩ = some (.string ⟨#[]⟩) := HBK.out.cell 3; have f3 : (w4.alloc (.cells #[.int .i64 0, .int .i64 0, .int .i64 0, .string ⟨#[]⟩, .slice none 0 0, .slice none 0 0] 25)).frozen? ⟨w4.heap.size, 3, none⟩ = false := HBK.out.frozen 3; have r4 : (w4.alloc (.cells #[.int .i64 0, .int .i64 0, .int .i64 0, .string ⟨#[]⟩, .slice none 0 0, .slice none 0 0] 25)).cell? ⟨w4.heap.size, 4, none⟩ = some (.slice none 0 0) := HBK.out.cell 4; have f4 : (w4.alloc (.cells #[.int .i64 0, .int .i64 0, .int .i64 0, .string ⟨#[]⟩, .slice none 0 0, .slice none 0 0] 25)).frozen? ⟨w4.heap.size, 4, none⟩ = false := HBK.out.frozen 4; have r5 : (w4.alloc (.cells #[.int .i64 0, .int .i64 0, .int .i64 0, .string ⟨#[]⟩, .slice none 0 0, .slice none 0 0] 25)).cell? ⟨w4.heap.size, 5, none⟩ = some (.slice none 0 0) := HBK.out.cell 5; have f5 : (w4.alloc (.cells #[.int .i64 0, .int .i64 0, .int .i64 0, .string ⟨#[]⟩, .slice none 0 0, .slice none 0 0] 25)).frozen? ⟨w4.heap.size, 5, none⟩ = false := HBK.out.frozen 5; have HYV : Hid (VAt w4 (fun b => b ≠ w4.heap.size) nz vx T) := Lib.hid (hvx.mono fun b hb hs => (by omega)))); have HOX : Hid (Only Nobody w10 w4) := Lib.hid (Only.trans (by repeat (first | with_reducible exact HOX.out | with_reducible exact Only.refl _ _ | with_reducible refine Only.drew ?_ | with_reducible refine Only.alloc ?_ _ | with_reducible refine Only.setCell ?_ (Or.inr ?_) _ | exact HN4.out | exact HN3.out | exact HN2.out)) ho4); have HN4 : Hid (w10.heap.size ≤ w4.heap.size) := Lib.hid HOX.out.size; clear hvx ho4))
                        all_goals
                          go_wp2_with fail
                          go_meet
                          refine ⟨vx, nz, _, rfl, rfl, ?_, ?_, ?_⟩
                          · first
                              | with_reducible exact Blk.new _ _ _
                              | exact (((((HBK.out.set_ 0 _).set_ 1 _).set_ 2 _).set_ 3 _).set_ 4 _).set_ 5 _
                          · refine Lib.hid (VAt.any (VAt.keep HYV.out ?_ (fun b hb e => hb e)))
                            repeat (first | with_reducible exact Only.refl _ _ | with_reducible refine Only.drew ?_ | with_reducible refine Only.alloc ?_ _ | with_reducible refine Only.setCell ?_ (Or.inl ?_) _ | exact rfl)
                          · exact Lib.hid (by repeat (first | with_reducible exact HOX.out | with_reducible exact Only.refl _ _ | with_reducible refine Only.drew ?_ | with_reducible refine Only.alloc ?_ _ | with_reducible refine Only.setCell ?_ (Or.inr ?_) _ | exact HN4.out | exact HN3.out | exact HN2.out))
                      case rest =>
                      obtain ⟨z, nz, Zb, rfl, rfl, hbz, HZV, HOX⟩ := hcut
                      obtain ⟨b0, b1, b2, b3, b4, b5⟩ := HBW.out wc (H10.out.trans HOX.out)
                      have z0 : wc.cell? ⟨Zb, 0, none⟩ = some (.int .i64 z.k) := (hbz).cell 0
                      have z1 : wc.cell? ⟨Zb, 1, none⟩ = some (.int .i64 z.i) := (hbz).cell 1
                      have z2 : wc.cell? ⟨Zb, 2, none⟩ = some (.int .i64 z.s) := (hbz).cell 2
                      have z3 : wc.cell? ⟨Zb, 3, none⟩ = some (.string z.t) := (hbz).cell 3
                      have z4 : wc.cell? ⟨Zb, 4, none⟩ = some (.slice z.la z.ln z.lc) := (hbz).cell 4
                      have z5 : wc.cell? ⟨Zb, 5, none⟩ = some (.slice z.fa z.fn z.fc) := (hbz).cell 5
                      have HRR := Lib.hid (Only.refl Nobody wc)
                      have HOc := Lib.hid (HO10.out.trans HOX.out)
                      clear HN2 HZ2 HOB
                      go_wp2_with fail
                      refine (same_eq (max nz n) z v T Any_ S wc HSZ.out (HZV.out.le (by omega)) ((HV.out.same HOc.out).le (by omega))).mono ?_
                      rintro e w12 ⟨rfl, ho⟩
                      have HO12 := Lib.hid (HOc.out.trans ho)
                      clear ho
                      go_wp2_with fail
                      go_ret
                      exact ⟨rfl, HO12.out⟩
                    · have hF0 : F2 = 0 := Decidable.byContradiction fun e => hk1 ⟨hz, e⟩
                      subst hF0
                      have hkI1 : (1 : Int) < ((k + 1 : Nat) : Int) := by omega
                      clear hz hk1 hprev
                      have HOB : Hid (Only Nobody w w10) := Lib.hid (HO10.out)
                      have HOX : Hid (Only Nobody w10 w10) := Lib.hid (Only.refl _ _)
                      have HN2 : Hid (w10.heap.size ≤ w10.heap.size) := Lib.hid (Nat.le_refl _)
                      have HZ2 : Hid (∀ w', Only Nobody (w10.alloc (.cells #[.int .i64 0, .int .i64 0, .int .i64 0, .string ⟨#[]⟩, .slice none 0 0, .slice none 0 0] 25)) w' → Blk w' w10.heap.size 25 #[.int .i64 0, .int .i64 0, .int .i64 0, .string ⟨#[]⟩, .slice none 0 0, .slice none 0 0]) := Lib.hid fun w' h' => h'.blk (Blk.new w10 _ _) (fun x => x)
                      have HSX : Hid (∀ w', Only Nobody w10 w' → w'.cell? ⟨X, 0, none⟩ = some (.int .i64 x.k) ∧ w'.cell? ⟨X, 1, none⟩ = some (.int .i64 x.i) ∧ w'.cell? ⟨X, 2, none⟩ = some (.int .i64 x.s) ∧ w'.cell? ⟨X, 3, none⟩ = some (.string x.t) ∧ w'.cell? ⟨X, 4, none⟩ = some (.slice x.la x.ln x.lc) ∧ w'.cell? ⟨X, 5, none⟩ = some (.slice x.fa x.fn x.fc)) := Lib.hid fun w' h' => by
                        have hb := HBX.out w' (H910.out.trans h')
                        exact ⟨hb.cell 0, hb.cell 1, hb.cell 2, hb.cell 3, hb.cell 4, hb.cell 5⟩
                      obtain ⟨b0, b1, b2, b3, b4, b5⟩ := HSX.out w10 HOX.out
                      go_upto_region 15 with fail
                      go_cut [15, 16] (fun z e wx => ∃ (vx : VC) (nz Zb : Nat), z = .pointer (some ⟨Zb, 0, none⟩) ∧ e = .int .i64 0 ∧ Blk wx Zb 25 #[.int .i64 vx.k, .int .i64 vx.i, .int .i64 vx.s, .string vx.t, .slice vx.la vx.ln vx.lc, .slice vx.fa vx.fn vx.fc] ∧ Hid (VAt wx Any_ nz vx T) ∧ Hid (Only Nobody w10 wx))
                      case first =>
                        go_region_held3 (fun w' => w'.cell? ⟨X, 0, none⟩ = some (.int .i64 x.k) ∧ w'.cell? ⟨X, 1, none⟩ = some (.int .i64 x.i) ∧ w'.cell? ⟨X, 2, none⟩ = some (.int .i64 x.s) ∧ w'.cell? ⟨X, 3, none⟩ = some (.string x.t) ∧ w'.cell? ⟨X, 4, none⟩ = some (.slice x.la x.ln x.lc) ∧ w'.cell? ⟨X, 5, none⟩ = some (.slice x.fa x.fn x.fc)) (exact HSX.out _ (by repeat (first | with_reducible exact HOX.out | with_reducible exact Only.refl _ _ | with_reducible refine Only.drew ?_ | with_reducible refine Only.alloc ?_ _ | with_reducible refine Only.setCell ?_ (Or.inr ?_) _ | exact HN4.out | exact HN3.out | exact HN2.out))) (first
                          | (go_at_call 7; refine (own_ptc (some ad) (k + 1) c L _ hm (HP.out.same (HOB.out.trans (by repeat (first | with_reducible exact HOX.out | with_reducible exact Only.refl _ _ | with_reducible refine Only.drew ?_ | with_reducible refine Only.alloc ?_ _ | with_reducible refine Only.setCell ?_ (Or.inr ?_) _ | exact HN4.out | exact HN3.out | exact HN2.out))))).mono ?_; rintro e w3 ⟨Y3, s3, rfl, hms3, hp3, ho3⟩; have HP3 := Lib.hid hp3; have HZ3 : Hid (∀ w', Only Nobody (w3.alloc (.cells #[.int .i64 0, .int .i64 0, .int .i64 0, .string ⟨#[]⟩, .slice none 0 0, .slice none 0 0] 25)) w' → Blk w' w3.heap.size 25 #[.int .i64 0, .int .i64 0, .int .i64 0, .string ⟨#[]⟩, .slice none 0 0, .slice none 0 0]) := Lib.hid fun w' h' => h'.blk (Blk.new w3 _ _) (fun x => x); (first | (with_reducible have HBQ := Lib.hid (HZ2.out w3 ho3)) | (have HBQ := Lib.hid (HZ2.out w3 (Only.trans (Only.refl _ _).drew ho3))) | skip); have HOX : Hid (Only Nobody w10 w3) := Lib.hid (Only.trans (by repeat (first | with_reducible exact HOX.out | with_reducible exact Only.refl _ _ | with_reducible refine Only.drew ?_ | with_reducible refine Only.alloc ?_ _ | with_reducible refine Only.setCell ?_ (Or.inr ?_) _ | exact HN4.out | exact HN3.out | exact HN2.out)) ho3); have HN3 : Hid (w10.heap.size ≤ w3.heap.size) := Lib.hid HOX.out.size; clear hp3 ho3)
                          | (go_at_call 6; refine (delete_any x T' Any_ nx Y3 (k + 1) s3 L _ HT'S.out hm hms3 (HXW.out _ (H910.out.trans (by repeat (first | with_reducible exact HOX.out | with_reducible exact Only.refl _ _ | with_reducible refine Only.drew ?_ | with_reducible refine Only.alloc ?_ _ | with_reducible refine Only.setCell ?_ (Or.inr ?_) _ | exact HN4.out | exact HN3.out | exact HN2.out)))) (HP3.out.same (by repeat (first | with_reducible exact Only.refl _ _ | with_reducible refine Only.drew ?_ | with_reducible refine Only.alloc ?_ _))) (HS.out.same (HOB.out.trans (by repeat (first | with_reducible exact HOX.out | with_reducible exact Only.refl _ _ | with_reducible refine Only.drew ?_ | with_reducible refine Only.alloc ?_ _ | with_reducible refine Only.setCell ?_ (Or.inr ?_) _ | exact HN4.out | exact HN3.out | exact HN2.out)))).tab).mono ?_; rintro e w4 ⟨vx, nz, rfl, hvx, ho4⟩; rw [HDE.out, if_pos rfl, HDS.out.2] at hvx; rw [HDE.out]; unfold retV; (first | ((with_reducible have HBK := Lib.hid (HZ3.out w4 ho4)); have r0 : w4.cell? ⟨w3.heap.size, 0, none⟩ = some (.int .i64 0) := HBK.out.cell 0; have f0 : w4.frozen? ⟨w3.heap.size, 0, none⟩ = false := HBK.out.frozen 0; have r1 : w4.cell? ⟨w3.heap.size, 1, none⟩ = some (.int .i64 0) := HBK.out.cell 1; have f1 : w4.frozen? ⟨w3.heap.size, 1, none⟩ = false := HBK.out.frozen 1; have r2 : w4.cell? ⟨w3.heap.size, 2, none⟩ = some (.int .i64 0) := HBK.out.cell 2; have f2 : w4.frozen? ⟨w3.heap.size, 2, none⟩ = false := HBK.out.frozen 2; have r3 : w4.cell? ⟨w3.heap.size, 3, none⟩ = some (.string ⟨#[]⟩) := HBK.out.cell 3; have f3 : w4.frozen? ⟨w3.heap.size, 3, none⟩ = false := HBK.out.frozen 3; have r4 : w4.cell? ⟨w3.heap.size, 4, none⟩ = some (.slice none 0 0) := HBK.out.cell 4; have f4 : w4.frozen? ⟨w3.heap.size, 4, none⟩ = false := HBK.out.frozen 4; have r5 : w4.cell? ⟨w3.heap.size, 5, none⟩ = some (.slice none 0 0) := HBK.out.cell 5; have f5 : w4.frozen? ⟨w3.heap.size, 5, none⟩ = false := HBK.out.frozen 5; have HYV : Hid (VAt w4 (fun b => b ≠ w3.heap.size) nz vx T) := Lib.hid (hvx.mono fun b hb hs => (by intro e; subst e; simp at hs <;> omega))) | (have HBK := Lib.hid (ho4.blk HBQ.out (fun x => x)); have r0 : w4.cell? ⟨w10.heap.size, 0, none⟩ = some (.int .i64 0) := HBK.out.cell 0; have f0 : w4.frozen? ⟨w10.heap.size, 0, none⟩ = false := HBK.out.frozen 0; have r1 : w4.cell? ⟨w10.heap.size, 1, none⟩ = some (.int .i64 0) := HBK.out.cell 1; have f1 : w4.frozen? ⟨w10.heap.size, 1, none⟩ = false := HBK.out.frozen 1; have r2 : w4.cell? ⟨w10.heap.size, 2, none⟩ = some (.int .i64 0) := HBK.out.cell 2; have f2 : w4.frozen? ⟨w10.heap.size, 2, none⟩ = false := HBK.out.frozen 2; have r3 : w4.cell? ⟨w10.heap.size, 3, none⟩ = some (.string ⟨#[]⟩) := HBK.out.cell 3; have f3 : w4.frozen? ⟨w10.heap.size, 3, none⟩ = false := HBK.out.frozen 3; have r4 : w4.cell? ⟨w10.heap.size, 4, none⟩ = some (.slice none 0 0) := HBK.out.cell 4; have f4 : w4.frozen? ⟨w10.heap.size, 4, none⟩ = false := HBK.out.frozen 4; have r5 : w4.cell? ⟨w10.heap.size, 5, none⟩ = some (.slice none 0 0) := HBK.out.cell 5; have f5 : w4.frozen? ⟨w10.heap.size, 5, none⟩ = false := HBK.out.frozen 5; have HYV : Hid (VAt w4 (fun b => b ≠ w10.heap.size) nz vx T) := Lib.hid (hvx.mono fun b hb hs => (by intro e; subst e; have := HBQ.out.lt; omega))) | (have HBK := Lib.hid (Blk.new w4 25 #[.int .i64 0, .int .i64 0, .int .i64 0, .string ⟨#[]⟩, .slice none 0 0, .slice none 0 0]); have r0 : (w4.alloc (.cells #[.int .i64 0, .int .i64 0, .int .i64 0, .string ⟨#[]⟩, .slice none 0 0, .slice none 0 0] 25)).cell? ⟨w4.heap.size, 0, none⟩ = some (.int .i64 0) := HBK.out.cell 0; have f0 : (w4.alloc (.cells #[.int .i64 0, .int .i64 0, .int .i64 0, .string ⟨#[]⟩, .slice none 0 0, .slice none 0 0] 25)).frozen? ⟨w4.heap.size, 0, none⟩ = false := HBK.out.frozen 0; have r1 : (w4.alloc (.cells #[.int .i64 0, .int .i64 0, .int .i64 0, .string ⟨#[]⟩, .slice none 0 0, .slice none 0 0] 25)).cell? ⟨w4.heap.size, 1, none⟩ = some (.int .i64 0) := HBK.out.cell 1; have f1 : (w4.alloc (.cells #[.int .i64 0, .int .i64 0, .int .i64 0, .string ⟨#[]⟩, .slice none 0 0, .slice none 0 0] 25)).frozen? ⟨w4.heap.size, 1, none⟩ = false := HBK.out.frozen 1; have r2 : (w4.alloc (.cells #[.int .i64 0, .int .i64 0, .int .i64 0, .string ⟨#[]⟩, .slice none 0 0, .slice none 0 0] 25)).cell? ⟨w4.heap.size, 2, none⟩ = some (.int .i64 0) := HBK.out.cell 2; have f2 : (w4.alloc (.cells #[.int .i64 0, .int .i64 0, .int .i64 0, .string ⟨#[]⟩, .slice none 0 0, .slice none 0 0] 25)).frozen? ⟨w4.heap.size, 2, none⟩ = false := HBK.out.frozen 2; have r3 : (w4.alloc (.cells #[.int .i64 0, .int .i64 0, .int .i64 0, .string ⟨#[]⟩, .slice none 0 0, .slice none 0 0] 25)).cell? ⟨w4.heap.size, 3, none⟩ = some (.string ⟨#[]⟩) := HBK.out.cell 3; have f3 : (w4.alloc (.cells #[.int .i64 0, .int .i64 0, .int .i64 0, .string ⟨#[]⟩, .slice none 0 0, .slice none 0 0] 25)).frozen? ⟨w4.heap.size, 3, none⟩ = false := HBK.out.frozen 3; have r4 : (w4.alloc (.cells #[.int .i64 0, .int .i64 0, .int .i64 0, .string ⟨#[]⟩, .slice none 0 0, .slice none 0 0] 25)).cell? ⟨w4.heap.size, 4, none⟩ = some (.slice none 0 0) := HBK.out.cell 4; have f4 : (w4.alloc (.cells #[.int .i64 0, .int .i64 0, .int .i64 0, .string ⟨#[]⟩, .slice none 0 0, .slice none 0 0] 25)).frozen? ⟨w4.heap.size, 4, none⟩ = false := HBK.out.frozen 4; have r5 : (w4.alloc (.cells #[.int .i64 0, .int .i64 0, .int .i64 0, .string ⟨#[]⟩, .slice none 0 0, .slice none 0 0] 25)).cell? ⟨w4.heap.size, 5, none⟩ = some (.slice none 0 0) := HBK.out.cell 5; have f5 : (w4.alloc (.cells #[.int .i64 0, .int .i64 0, .int .i64 0, .string ⟨#[]⟩, .slice none 0 0, .slice none 0 0] 25)).frozen? ⟨w4.heap.size, 5, none⟩ = false := HBK.out.frozen 5; have HYV : Hid (VAt w4 (fun b => b ≠ w4.heap.size) nz vx T) := Lib.hid (hvx.mono fun b hb hs => (by omega)))); have HOX : Hid (Only Nobody w10 w4) := Lib.hid (Only.trans (by repeat (first | with_reducible exact HOX.out | with_reducible exact Only.refl _ _ | with_reducible refine Only.drew ?_ | with_reducible refine Only.alloc ?_ _ | with_reducible refine Only.setCell ?_ (Or.inr ?_) _ | exact HN4.out | exact HN3.out | exact HN2.out)) ho4); have HN4 : Hid (w10.heap.size ≤ w4.heap.size) := Lib.hid HOX.out.size; clear hvx ho4))
                        all_goals
                          go_wp2_with fail
                          go_meet
                          refine ⟨vx, nz, _, rfl, rfl, ?_, ?_, ?_⟩
                          · first
                              | with_reducible exact Blk.new _ _ _
                              | exact (((((HBK.out.set_ 0 _).set_ 1 _).set_ 2 _).set_ 3 _).set_ 4 _).set_ 5 _
                          · refine Lib.hid (VAt.any (VAt.keep HYV.out ?_ (fun b hb e => hb e)))
                            repeat (first | with_reducible exact Only.refl _ _ | with_reducible refine Only.drew ?_ | with_reducible refine Only.alloc ?_ _ | with_reducible refine Only.setCell ?_ (Or.inl ?_) _ | exact rfl)
                          · exact Lib.hid (by repeat (first | with_reducible exact HOX.out | with_reducible exact Only.refl _ _ | with_reducible refine Only.drew ?_ | with_reducible refine Only.alloc ?_ _ | with_reducible refine Only.setCell ?_ (Or.inr ?_) _ | exact HN4.out | exact HN3.out | exact HN2.out))
                      case rest =>
                      obtain ⟨z, nz, Zb, rfl, rfl, hbz, HZV, HOX⟩ := hcut
                      obtain ⟨b0, b1, b2, b3, b4, b5⟩ := HBW.out wc (H10.out.trans HOX.out)
                      have z0 : wc.cell? ⟨Zb, 0, none⟩ = some (.int .i64 z.k) := (hbz).cell 0
                      have z1 : wc.cell? ⟨Zb, 1, none⟩ = some (.int .i64 z.i) := (hbz).cell 1
                      have z2 : wc.cell? ⟨Zb, 2, none⟩ = some (.int .i64 z.s) := (hbz).cell 2
                      have z3 : wc.cell? ⟨Zb, 3, none⟩ = some (.string z.t) := (hbz).cell 3
                      have z4 : wc.cell? ⟨Zb, 4, none⟩ = some (.slice z.la z.ln z.lc) := (hbz).cell 4
                      have z5 : wc.cell? ⟨Zb, 5, none⟩ = some (.slice z.fa z.fn z.fc) := (hbz).cell 5
                      have HRR := Lib.hid (Only.refl Nobody wc)
                      have HOc := Lib.hid (HO10.out.trans HOX.out)
                      clear HN2 HZ2 HOB
                      go_wp2_with fail
                      refine (same_eq (max nz n) z v T Any_ S wc HSZ.out (HZV.out.le (by omega)) ((HV.out.same HOc.out).le (by omega))).mono ?_
                      rintro e w12 ⟨rfl, ho⟩
                      have HO12 := Lib.hid (HOc.out.trans ho)
                      clear ho
                      go_wp2_with fail
                      go_ret
                      exact ⟨rfl, HO12.out⟩
                · have her0 : (er != 0) = true := by simpa using her
                  have her1 : (er == 0) = false := by simpa using her
                  go_wp2_with fail
                  go_ret
                  exact ⟨rfl, HO10.out⟩
              · have h190 : (E != 19) = true := by simpa using h19
                have h191 : (E == 19) = false := by simpa using h19
                go_wp2_with fail
                go_ret
                exact ⟨rfl, HO10.out⟩
/-- The law as the claim wants it. -/
theorem lawDelW (v : VC) (T : VT) (n : Nat) {w : World} (hsz : T.size ≤ 140737488351232) (h : VAt w (fun b => b < w.heap.size) n v T) (A : Option Addr) (m c : Nat) (L : List Pt) (ha : Pts w A m L) (hmc : m ≤ c) (hs : Std w) : Calls Tryz.prog 3 #[.agg #[.int .i64 v.k, .int .i64 v.i, .int .i64 v.s, .string v.t, .slice v.la v.ln v.lc, .slice v.fa v.fn v.fc], .slice A m c] w fun e w' => e = .returned (.bool true) ∧ Only Nobody w w' :=
  lawDel v T _ n A m c L hsz h ha hmc hs
end Go.Proofs.YtdccckoelnnnoaaGreatDoor
