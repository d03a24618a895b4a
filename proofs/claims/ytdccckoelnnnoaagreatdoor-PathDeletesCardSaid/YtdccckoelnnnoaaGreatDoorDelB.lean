/- path.Delete: its closures. -/
import Derived.Test.YtdccckoelnnnoaaGreatDoorSetA
import Derived.Test.YtdccckoelnnnoaaGreatDoorDelA
import Derived.Test.YtdccckoelnnnoaaGreatDoorDelP
namespace Go.Proofs.YtdccckoelnnnoaaGreatDoor
open Go.RowKit
attribute [local go_sem ↓] Go.wp_at_zero Go.wp_at_succ

def DLastPost (S : Nat → Prop) (n : Nat) (T : VT) (p : Pt) (w : World) (e : Ending) (w' : World) : Prop := ∃ er, ((leadL p T = [] ∧ er = 19) ∨ (leadL p T ≠ [] ∧ er = 0)) ∧ ResV (NewS S w) (n + 1) er (delT T p) e w' ∧ Only Nobody w w'
theorem rowv_low {w : World} {base B n c : Nat} {A : Option Addr} {F : List VC} (h : w.ownsRow base 25 6 (.slice A n c) n (cells VC.vals F)) (hB : B ≤ base) : RowA VC.vals 6 w (fun b => B ≤ b) A n F ∧ n ≤ c := by
  refine ⟨(RowA.of_own vlen (by omega) h).mono (fun b _ hb => Nat.le_trans hB hb.1), ?_⟩
  rcases h.2 with ⟨e, h0⟩ | ⟨g, cap, cur, hv, _, _, hc, _⟩
  · omega
  · injection hv with _ _ h3
    omega
theorem rowf_low {w : World} {base B n c : Nat} {A : Option Addr} {F : List FC} (h : w.ownsRow base 59 7 (.slice A n c) n (cells FC.vals F)) (hB : B ≤ base) : RowA FC.vals 7 w (fun b => B ≤ b) A n F ∧ n ≤ c := by
  refine ⟨(RowA.of_own flen (by omega) h).mono (fun b _ hb => Nat.le_trans hB hb.1), ?_⟩
  rcases h.2 with ⟨e, h0⟩ | ⟨g, cap, cur, hv, _, _, hc, _⟩
  · omega
  · injection hv with _ _ h3
    omega
section
variable {S : Nat → Prop} {n N M q c4 : Nat} {T : VT} {v : VC} {V : List VC} {F : List FC} {w w1 w4 wE : World} {A4 : Option Addr}
theorem delL_post (hN : w.heap.size = N) (heq : v.k = T.k ∧ v.i = T.i ∧ v.s = T.s ∧ v.t = T.t ∧ v.ln ≤ v.lc ∧ v.fn ≤ v.fc) (hA : All2 (VAt w S n) V T.l) (hF : ∃ F, RowA FC.vals 7 w S v.fa v.fn F ∧ All2 (fun c x => c.n = x.1 ∧ VAt w S n c.v x.2) F T.f)
    (ho1 : Only Nobody w w4) (hM : N + 3 ≤ M) (hr : RowA VC.vals 6 w4 (fun b => M ≤ b) A4 (v.ln - 1) (V.take q ++ V.drop (q + 1)) ∧ v.ln - 1 ≤ c4) (hE : Only (fun b => b = N ∨ b = N + 1 + 1) w4 wE) :
    VAt wE (NewS S w) (n + 1) ⟨v.k, v.i, v.s, v.t, A4, v.ln - 1, c4, v.fa, v.fn, v.fc⟩ (.mk T.k T.i T.s T.t (T.l.take q ++ T.l.drop (q + 1)) T.f) := by
  have hO : Only (fun b => N ≤ b) w wE := (ho1.mono (fun _ x => x.elim)).trans (hE.mono (fun b e => by omega))
  obtain ⟨F, hF1, hF2⟩ := hF
  have h2 := (hA.imp fun _ _ h => vat_low h hN hO)
  exact ⟨⟨heq.1, heq.2.1, heq.2.2.1, heq.2.2.2.1, hr.2, heq.2.2.2.2.2⟩, ⟨_, (hr.1.keep hE (fun b hb e => by omega)).mono (fun b _ hb => .inr (by have h' : M ≤ b := hb; omega)), (h2.take q).app (h2.drop (q + 1))⟩, ⟨F, row_keep hF1 hN hO, hF2.imp fun _ _ h => ⟨h.1, vat_low h.2 hN hO⟩⟩⟩
theorem delF_post (hN : w.heap.size = N) (heq : v.k = T.k ∧ v.i = T.i ∧ v.s = T.s ∧ v.t = T.t ∧ v.ln ≤ v.lc ∧ v.fn ≤ v.fc) (hB : All2 (fun c x => c.n = x.1 ∧ VAt w S n c.v x.2) F T.f) (hL : ∃ V, RowA VC.vals 6 w S v.la v.ln V ∧ All2 (VAt w S n) V T.l)
    (ho1 : Only Nobody w w4) (hM : N + 3 ≤ M) (hr : RowA FC.vals 7 w4 (fun b => M ≤ b) A4 (v.fn - 1) (F.take q ++ F.drop (q + 1)) ∧ v.fn - 1 ≤ c4) (hE : Only (fun b => b = N ∨ b = N + 1 + 1) w4 wE) :
    VAt wE (NewS S w) (n + 1) ⟨v.k, v.i, v.s, v.t, v.la, v.ln, v.lc, A4, v.fn - 1, c4⟩ (.mk T.k T.i T.s T.t T.l (T.f.take q ++ T.f.drop (q + 1))) := by
  have hO : Only (fun b => N ≤ b) w wE := (ho1.mono (fun _ x => x.elim)).trans (hE.mono (fun b e => by omega))
  obtain ⟨V, hV1, hV2⟩ := hL
  have h2 : All2 (fun (c : FC) (x : ByteArray × VT) => c.n = x.1 ∧ VAt wE (NewS S w) n c.v x.2) F T.f := hB.imp fun _ _ h => ⟨h.1, vat_low h.2 hN hO⟩
  exact ⟨⟨heq.1, heq.2.1, heq.2.2.1, heq.2.2.2.1, heq.2.2.2.2.1, hr.2⟩, ⟨V, row_keep hV1 hN hO, hV2.imp fun _ _ h => vat_low h hN hO⟩, ⟨_, (hr.1.keep hE (fun b hb e => by omega)).mono (fun b _ hb => .inr (by have h' : M ≤ b := hb; omega)), (h2.take q).app (h2.drop (q + 1))⟩⟩
end
def AbsPost (w : World) (e : Ending) (w' : World) : Prop := e = retV zeroC 19 ∧ Only Nobody w w'
theorem abs_eq : retV zeroC 19 = .returned (.tuple #[.agg #[.int .i64 0, .int .i64 0, .int .i64 0, .string ⟨#[]⟩, .slice none 0 0, .slice none 0 0], .int .i64 19]) := rfl

set_option maxRecDepth 100000 in
set_option maxHeartbeats 4000000 in
theorem absent_any (v : VC) (k i : Int) (nm : ByteArray) (w : World) : Calls Tryz.prog 21 #[.agg #[.int .i64 v.k, .int .i64 v.i, .int .i64 v.s, .string v.t, .slice v.la v.ln v.lc, .slice v.fa v.fn v.fc], .agg #[.int .i64 k, .int .i64 i, .string nm]] w (AbsPost w) := by
  obtain ⟨N, HN⟩ : ∃ N, Hid (w.heap.size = N) := ⟨_, Lib.hid rfl⟩
  obtain ⟨W, HW⟩ : ∃ W, Hid (W = (((w.alloc (.cells #[.int .i64 v.k, .int .i64 v.i, .int .i64 v.s, .string v.t, .slice v.la v.ln v.lc, .slice v.fa v.fn v.fc] 25)).alloc (.cells #[.int .i64 k, .int .i64 i, .string nm] 47)).alloc (.cells #[.int .i64 0, .int .i64 0, .int .i64 0, .string ⟨#[]⟩, .slice none 0 0, .slice none 0 0] 25))) := ⟨_, Lib.hid rfl⟩
  have HOA : Hid (Only Nobody w W) := Lib.hid (by rw [HW.out]; exact (((Only.refl _ _).alloc _).alloc _).alloc _)
  have HB0 : Hid (Blk W (N) 25 #[.int .i64 v.k, .int .i64 v.i, .int .i64 v.s, .string v.t, .slice v.la v.ln v.lc, .slice v.fa v.fn v.fc]) := Lib.hid (by
    have := (Blk.new w 25 #[.int .i64 v.k, .int .i64 v.i, .int .i64 v.s, .string v.t, .slice v.la v.ln v.lc, .slice v.fa v.fn v.fc])
    rw [HW.out, ← HN.out]
    simpa using ((this.alloc (.cells #[.int .i64 k, .int .i64 i, .string nm] 47)).alloc (.cells #[.int .i64 0, .int .i64 0, .int .i64 0, .string ⟨#[]⟩, .slice none 0 0, .slice none 0 0] 25)))
  have HB1 : Hid (Blk W (N + 1) 47 #[.int .i64 k, .int .i64 i, .string nm]) := Lib.hid (by
    have := (Blk.new (w.alloc (.cells #[.int .i64 v.k, .int .i64 v.i, .int .i64 v.s, .string v.t, .slice v.la v.ln v.lc, .slice v.fa v.fn v.fc] 25)) 47 #[.int .i64 k, .int .i64 i, .string nm])
    rw [HW.out, ← HN.out]
    simpa using (this.alloc (.cells #[.int .i64 0, .int .i64 0, .int .i64 0, .string ⟨#[]⟩, .slice none 0 0, .slice none 0 0] 25)))
  have HB2 : Hid (Blk W (N + 1 + 1) 25 #[.int .i64 0, .int .i64 0, .int .i64 0, .string ⟨#[]⟩, .slice none 0 0, .slice none 0 0]) := Lib.hid (by
    have := (Blk.new ((w.alloc (.cells #[.int .i64 v.k, .int .i64 v.i, .int .i64 v.s, .string v.t, .slice v.la v.ln v.lc, .slice v.fa v.fn v.fc] 25)).alloc (.cells #[.int .i64 k, .int .i64 i, .string nm] 47)) 25 #[.int .i64 0, .int .i64 0, .int .i64 0, .string ⟨#[]⟩, .slice none 0 0, .slice none 0 0])
    rw [HW.out, ← HN.out]
    simpa using this)
  have HWS : Hid (W.heap.size = N + 3) := Lib.hid (by rw [HW.out, ← HN.out]; simp)
  go_enter Tryz.func21, Tryz.ntmps21
  go_upto_region 1 with fail
  rw [← HW.out, HN.out]
  have r0 : W.cell? ⟨N + 1 + 1, 0, none⟩ = some (.int .i64 0) := (HB2.out).cell 0
  have rf0 : W.frozen? ⟨N + 1 + 1, 0, none⟩ = false := (HB2.out).frozen 0
  have r1 : W.cell? ⟨N + 1 + 1, 1, none⟩ = some (.int .i64 0) := (HB2.out).cell 1
  have rf1 : W.frozen? ⟨N + 1 + 1, 1, none⟩ = false := (HB2.out).frozen 1
  have r2 : W.cell? ⟨N + 1 + 1, 2, none⟩ = some (.int .i64 0) := (HB2.out).cell 2
  have rf2 : W.frozen? ⟨N + 1 + 1, 2, none⟩ = false := (HB2.out).frozen 2
  have r3 : W.cell? ⟨N + 1 + 1, 3, none⟩ = some (.string ⟨#[]⟩) := (HB2.out).cell 3
  have rf3 : W.frozen? ⟨N + 1 + 1, 3, none⟩ = false := (HB2.out).frozen 3
  have r4 : W.cell? ⟨N + 1 + 1, 4, none⟩ = some (.slice none 0 0) := (HB2.out).cell 4
  have rf4 : W.frozen? ⟨N + 1 + 1, 4, none⟩ = false := (HB2.out).frozen 4
  have r5 : W.cell? ⟨N + 1 + 1, 5, none⟩ = some (.slice none 0 0) := (HB2.out).cell 5
  have rf5 : W.frozen? ⟨N + 1 + 1, 5, none⟩ = false := (HB2.out).frozen 5
  have HPOST : Hid (∀ wE, Only (fun b => b = N + 1 + 1) W wE → AbsPost w (retV zeroC 19) wE) := Lib.hid fun wE hE => ⟨rfl, HOA.out.trans_more (hE.mono (fun b e => .inr (by rw [HN.out]; omega)))⟩
  go_wp2_with fail
  exact bodyPost_ret (v := .tuple #[.agg #[.int .i64 0, .int .i64 0, .int .i64 0, .string ⟨#[]⟩, .slice none 0 0, .slice none 0 0], .int .i64 19]) (by simp [results, Tryz.results21, go_sem, r0, r1, r2, r3, r4, r5]) rfl (HPOST.out _ (by repeat (first | with_reducible exact Only.refl _ _ | with_reducible refine Only.drew ?_ | with_reducible refine Only.alloc ?_ _ | with_reducible refine Only.setCell ?_ (Or.inl ?_) _ | exact rfl | exact Or.inl rfl | exact Or.inr (Or.inl rfl) | exact Or.inr (Or.inr rfl) | exact Or.inr rfl)))
set_option maxRecDepth 100000 in
set_option maxHeartbeats 16000000 in
theorem dlast_any (v : VC) (T : VT) (k i : Int) (nm : ByteArray) (S : Nat → Prop) (ba n : Nat) (w : World) (hval : validB ⟨k, i, nm⟩ = true) (h3 : (k == 3) = false) (h4 : k ≠ 4) (ha : appT ⟨k, i, nm⟩ T = true) (hsz : T.size ≤ 140737488351232) (h : VAt w S (n + 1) v T) (hba : Blk w ba 51 #[.func (.func 21) #[] #[]]) : Calls Tryz.prog 23 #[.agg #[.int .i64 v.k, .int .i64 v.i, .int .i64 v.s, .string v.t, .slice v.la v.ln v.lc, .slice v.fa v.fn v.fc], .agg #[.int .i64 k, .int .i64 i, .string nm], .pointer (some ⟨ba, 0, none⟩)] w (DLastPost S n T ⟨k, i, nm⟩ w) := by
  have HVAL := Lib.hid hval
  have H3 := Lib.hid h3
  have H4 := Lib.hid h4
  have HAP := Lib.hid ha
  have HSZ := Lib.hid hsz
  have HV := Lib.hid h
  have HBA := Lib.hid hba
  have hla := hba.lt
  obtain ⟨heq, ⟨V, hV, hA⟩, ⟨F, hF, hB⟩⟩ := h
  have HEQ := Lib.hid heq
  have HVR := Lib.hid hV
  have HVA := Lib.hid hA
  have HFR := Lib.hid hF
  have HFB := Lib.hid hB
  clear hba hval h3 ha heq hV hA hF hB hsz h4
  obtain ⟨N, HN⟩ : ∃ N, Hid (w.heap.size = N) := ⟨_, Lib.hid rfl⟩
  obtain ⟨W, HW⟩ : ∃ W, Hid (W = (((w.alloc (.cells #[.int .i64 v.k, .int .i64 v.i, .int .i64 v.s, .string v.t, .slice v.la v.ln v.lc, .slice v.fa v.fn v.fc] 25)).alloc (.cells #[.int .i64 k, .int .i64 i, .string nm] 47)).alloc (.cells #[.int .i64 0, .int .i64 0, .int .i64 0, .string ⟨#[]⟩, .slice none 0 0, .slice none 0 0] 25))) := ⟨_, Lib.hid rfl⟩
  have HOA : Hid (Only Nobody w W) := Lib.hid (by rw [HW.out]; exact (((Only.refl _ _).alloc _).alloc _).alloc _)
  have HB0 : Hid (Blk W (N) 25 #[.int .i64 v.k, .int .i64 v.i, .int .i64 v.s, .string v.t, .slice v.la v.ln v.lc, .slice v.fa v.fn v.fc]) := Lib.hid (by
    have := (Blk.new w 25 #[.int .i64 v.k, .int .i64 v.i, .int .i64 v.s, .string v.t, .slice v.la v.ln v.lc, .slice v.fa v.fn v.fc])
    rw [HW.out, ← HN.out]
    simpa using ((this.alloc (.cells #[.int .i64 k, .int .i64 i, .string nm] 47)).alloc (.cells #[.int .i64 0, .int .i64 0, .int .i64 0, .string ⟨#[]⟩, .slice none 0 0, .slice none 0 0] 25)))
  have HB1 : Hid (Blk W (N + 1) 47 #[.int .i64 k, .int .i64 i, .string nm]) := Lib.hid (by
    have := (Blk.new (w.alloc (.cells #[.int .i64 v.k, .int .i64 v.i, .int .i64 v.s, .string v.t, .slice v.la v.ln v.lc, .slice v.fa v.fn v.fc] 25)) 47 #[.int .i64 k, .int .i64 i, .string nm])
    rw [HW.out, ← HN.out]
    simpa using (this.alloc (.cells #[.int .i64 0, .int .i64 0, .int .i64 0, .string ⟨#[]⟩, .slice none 0 0, .slice none 0 0] 25)))
  have HB2 : Hid (Blk W (N + 1 + 1) 25 #[.int .i64 0, .int .i64 0, .int .i64 0, .string ⟨#[]⟩, .slice none 0 0, .slice none 0 0]) := Lib.hid (by
    have := (Blk.new ((w.alloc (.cells #[.int .i64 v.k, .int .i64 v.i, .int .i64 v.s, .string v.t, .slice v.la v.ln v.lc, .slice v.fa v.fn v.fc] 25)).alloc (.cells #[.int .i64 k, .int .i64 i, .string nm] 47)) 25 #[.int .i64 0, .int .i64 0, .int .i64 0, .string ⟨#[]⟩, .slice none 0 0, .slice none 0 0])
    rw [HW.out, ← HN.out]
    simpa using this)
  have HWS : Hid (W.heap.size = N + 3) := Lib.hid (by rw [HW.out, ← HN.out]; simp)
  go_enter Tryz.func23, Tryz.ntmps23
  go_upto_region 1 with fail
  rw [← HW.out, HN.out]
  have haN : ba < N := by rw [← HN.out]; exact hla
  have HCA : Hid (∀ w', Only Nobody W w' → Blk w' ba 51 #[.func (.func 21) #[] #[]]) := Lib.hid fun w' h => (HOA.out.trans h).blk HBA.out (fun x => x)
  have b0 : W.cell? ⟨N, 0, none⟩ = some (.int .i64 v.k) := (HB0.out).cell 0
  have b1 : W.cell? ⟨N, 1, none⟩ = some (.int .i64 v.i) := (HB0.out).cell 1
  have b2 : W.cell? ⟨N, 2, none⟩ = some (.int .i64 v.s) := (HB0.out).cell 2
  have b3 : W.cell? ⟨N, 3, none⟩ = some (.string v.t) := (HB0.out).cell 3
  have b4 : W.cell? ⟨N, 4, none⟩ = some (.slice v.la v.ln v.lc) := (HB0.out).cell 4
  have b5 : W.cell? ⟨N, 5, none⟩ = some (.slice v.fa v.fn v.fc) := (HB0.out).cell 5
  have p0 : W.cell? ⟨N + 1, 0, none⟩ = some (.int .i64 k) := (HB1.out).cell 0
  have p1 : W.cell? ⟨N + 1, 1, none⟩ = some (.int .i64 i) := (HB1.out).cell 1
  have p2 : W.cell? ⟨N + 1, 2, none⟩ = some (.string nm) := (HB1.out).cell 2
  go_wp2_with fail
  refine (lead_any k i nm v T (fun b => S b ∧ b < N) (n + 1) HVAL.out (by have := HSZ.out; omega) W (vat_in HV.out HN.out HOA.out)).mono ?_
  rintro e w1 ⟨A1, m1, c1, V1, rfl, hr1, ha1, ho1⟩
  have hm1 : m1 = (leadL ⟨k, i, nm⟩ T).length := by rw [← hr1.len, ha1.1]
  have HW1 := Lib.hid ho1
  have HO1 := Lib.hid (HOA.out.trans ho1)
  have HC0 : Hid (∀ w', Only Nobody w1 w' → Blk w' N 25 #[.int .i64 v.k, .int .i64 v.i, .int .i64 v.s, .string v.t, .slice v.la v.ln v.lc, .slice v.fa v.fn v.fc]) := Lib.hid fun w' h => (HW1.out.trans h).blk HB0.out (fun x => x)
  have HC1 : Hid (∀ w', Only Nobody w1 w' → Blk w' (N + 1) 47 #[.int .i64 k, .int .i64 i, .string nm]) := Lib.hid fun w' h => (HW1.out.trans h).blk HB1.out (fun x => x)
  have HC2 : Hid (∀ w', Only Nobody w1 w' → Blk w' (N + 1 + 1) 25 #[.int .i64 0, .int .i64 0, .int .i64 0, .string ⟨#[]⟩, .slice none 0 0, .slice none 0 0]) := Lib.hid fun w' h => (HW1.out.trans h).blk HB2.out (fun x => x)
  have HS1 : Hid (N + 3 ≤ w1.heap.size) := Lib.hid (by rw [← HWS.out]; exact ho1.size)
  have HR1 := Lib.hid (Only.refl Nobody w1)
  clear hr1 ha1 ho1 b0 b1 b2 b3 b4 b5 p0 p1 p2
  have b0 : w1.cell? ⟨N, 0, none⟩ = some (.int .i64 v.k) := ((HC0.out w1 HR1.out)).cell 0
  have b1 : w1.cell? ⟨N, 1, none⟩ = some (.int .i64 v.i) := ((HC0.out w1 HR1.out)).cell 1
  have b2 : w1.cell? ⟨N, 2, none⟩ = some (.int .i64 v.s) := ((HC0.out w1 HR1.out)).cell 2
  have b3 : w1.cell? ⟨N, 3, none⟩ = some (.string v.t) := ((HC0.out w1 HR1.out)).cell 3
  have b4 : w1.cell? ⟨N, 4, none⟩ = some (.slice v.la v.ln v.lc) := ((HC0.out w1 HR1.out)).cell 4
  have b5 : w1.cell? ⟨N, 5, none⟩ = some (.slice v.fa v.fn v.fc) := ((HC0.out w1 HR1.out)).cell 5
  have p0 : w1.cell? ⟨N + 1, 0, none⟩ = some (.int .i64 k) := ((HC1.out w1 HR1.out)).cell 0
  have p1 : w1.cell? ⟨N + 1, 1, none⟩ = some (.int .i64 i) := ((HC1.out w1 HR1.out)).cell 1
  have p2 : w1.cell? ⟨N + 1, 2, none⟩ = some (.string nm) := ((HC1.out w1 HR1.out)).cell 2
  have a0 : w1.cell? ⟨ba, 0, none⟩ = some (.func (.func 21) #[] #[]) := (HCA.out w1 HW1.out).cell 0
  cases hL : leadL ⟨k, i, nm⟩ T with
  | nil =>
    have hm0 : m1 = 0 := by rw [hm1, hL]; rfl
    subst hm0
    have HL0 := Lib.hid hL
    clear hL hm1
    go_wp2_with fail
    refine (absent_any v k i nm w1).mono ?_
    rintro e w4 ⟨rfl, ho4⟩
    rw [abs_eq]
    have hc2 := HC2.out w4 ho4
    have r0 : w4.cell? ⟨N + 1 + 1, 0, none⟩ = some (.int .i64 0) := (hc2).cell 0
    have rf0 : w4.frozen? ⟨N + 1 + 1, 0, none⟩ = false := (hc2).frozen 0
    have r1 : w4.cell? ⟨N + 1 + 1, 1, none⟩ = some (.int .i64 0) := (hc2).cell 1
    have rf1 : w4.frozen? ⟨N + 1 + 1, 1, none⟩ = false := (hc2).frozen 1
    have r2 : w4.cell? ⟨N + 1 + 1, 2, none⟩ = some (.int .i64 0) := (hc2).cell 2
    have rf2 : w4.frozen? ⟨N + 1 + 1, 2, none⟩ = false := (hc2).frozen 2
    have r3 : w4.cell? ⟨N + 1 + 1, 3, none⟩ = some (.string ⟨#[]⟩) := (hc2).cell 3
    have rf3 : w4.frozen? ⟨N + 1 + 1, 3, none⟩ = false := (hc2).frozen 3
    have r4 : w4.cell? ⟨N + 1 + 1, 4, none⟩ = some (.slice none 0 0) := (hc2).cell 4
    have rf4 : w4.frozen? ⟨N + 1 + 1, 4, none⟩ = false := (hc2).frozen 4
    have r5 : w4.cell? ⟨N + 1 + 1, 5, none⟩ = some (.slice none 0 0) := (hc2).cell 5
    have rf5 : w4.frozen? ⟨N + 1 + 1, 5, none⟩ = false := (hc2).frozen 5
    have HPOST : Hid (∀ wE, Only (fun b => b = N + 1 + 1) w4 wE → DLastPost S n T ⟨k, i, nm⟩ w (retV zeroC 19) wE) := Lib.hid fun wE hE => ⟨19, .inl ⟨HL0.out, rfl⟩, res_err (by omega), (HO1.out.trans ho4).trans_more (hE.mono (fun b e => .inr (by rw [HN.out]; omega)))⟩
    clear ho4 hc2
    unfold retV at HPOST
    go_wp2_with fail
    exact bodyPost_ret (v := .tuple #[.agg #[.int .i64 0, .int .i64 0, .int .i64 0, .string ⟨#[]⟩, .slice none 0 0, .slice none 0 0], .int .i64 19]) (by simp [results, Tryz.results23, go_sem, r0, r1, r2, r3, r4, r5]) rfl (HPOST.out _ (by repeat (first | with_reducible exact Only.refl _ _ | with_reducible refine Only.drew ?_ | with_reducible refine Only.alloc ?_ _ | with_reducible refine Only.setCell ?_ (Or.inl ?_) _ | exact rfl | exact Or.inl rfl | exact Or.inr (Or.inl rfl) | exact Or.inr (Or.inr rfl) | exact Or.inr rfl)))
  | cons U rest =>
    have HL0 := Lib.hid hL
    have hmI : ¬ (m1 : Int) = 0 := by rw [hm1, hL]; simp; omega
    have hmB : ((m1 : Int) == 0) = false := by simpa using hmI
    have hmN : (m1 == 0) = false := by rw [hm1, hL]; rfl
    clear hL hm1
    obtain ⟨_, hcase⟩ := lead_parts HVAL.out H3.out HAP.out HL0.out
    by_cases hk2 : k = 2
    · subst hk2
      obtain ⟨q, hq, hql⟩ : ∃ q : Nat, i = (q : Int) ∧ q < T.l.length := by
        rcases hcase with ⟨h1, _⟩ | ⟨_, q, h1, h2, _⟩
        · exact absurd (show (2 : Int) = 1 from h1) (by decide)
        · exact ⟨q, h1, h2⟩
      subst hq
      have hqn : q < v.ln := by rw [← HVR.out.len, HVA.out.1]; exact hql
      have hlnb : v.ln ≤ 1599289640355 := by have h1 := VT.size_eq T; have h2 := sizeL_len T.l; have h3 := HSZ.out; rw [← HVR.out.len, HVA.out.1]; omega
      clear hcase
      have hdt : delT T ⟨2, (q : Int), nm⟩ = .mk T.k T.i T.s T.t (T.l.take q ++ T.l.drop (q + 1)) T.f := by unfold delT; rw [if_pos rfl]; rfl
      have HDT := Lib.hid hdt
      clear hdt
      have hw1 : IntKind.i64.wrap ((q : Int) + 1) = (q : Int) + 1 := by rw [IntKind.wrap_i64]; omega
      have HOX := Lib.hid (Only.refl Nobody w1)
      have HOW3 := HOX
      go_upto_region 4 with fail
      go_region_law (first
        | (go_simp; go_at_call 26; refine (clonev_any v.la v.ln v.lc V S _ (HVR.out.same (HO1.out.trans (by repeat (first | with_reducible exact HOX.out | with_reducible exact Only.refl _ _ | with_reducible refine Only.drew ?_ | with_reducible refine Only.alloc ?_ _)))) (by omega)).mono ?_; rintro e w3 ⟨A3, c3, rfl, hown3, ho3⟩; have HOW3 : Hid (w3.ownsRow w1.heap.size 25 6 (.slice A3 v.ln c3) v.ln (cells VC.vals V)) := Lib.hid (Go.Joins.ownsRow_le hown3 (Only.size (F := Nobody) (by repeat (first | with_reducible exact HOX.out | with_reducible exact Only.refl _ _ | with_reducible refine Only.drew ?_ | with_reducible refine Only.alloc ?_ _)))); have HOX : Hid (Only Nobody w1 w3) := Lib.hid (Only.trans (by repeat (first | with_reducible exact HOX.out | with_reducible exact Only.refl _ _ | with_reducible refine Only.drew ?_ | with_reducible refine Only.alloc ?_ _)) ho3); have hp1 := HC1.out w3 HOX.out; have p0 : w3.cell? ⟨N + 1, 0, none⟩ = some (.int .i64 2) := hp1.cell 0; have p1 : w3.cell? ⟨N + 1, 1, none⟩ = some (.int .i64 (q : Int)) := hp1.cell 1; clear hown3 ho3 hp1)
        | (go_simp; go_at_call 25; refine (delv_any A3 v.ln c3 w1.heap.size q V _ (own_put HOW3.out (by repeat (first | with_reducible exact Only.refl _ _ | with_reducible refine Only.drew ?_ | with_reducible refine Only.alloc ?_ _))) HVR.out.len hlnb hqn).mono ?_; rintro e w4 ⟨A4, c4, rfl, hown4, ho4⟩; have HRW4 := Lib.hid (rowv_low hown4 (Nat.le_refl _)); have HOX : Hid (Only Nobody w1 w4) := Lib.hid (Only.trans_more (by repeat (first | with_reducible exact HOX.out | with_reducible exact Only.refl _ _ | with_reducible refine Only.drew ?_ | with_reducible refine Only.alloc ?_ _)) (ho4.mono (fun b e => .inr (own_low HOW3.out b e).1))); have hb0 := HC0.out w4 HOX.out; have hb2 := HC2.out w4 HOX.out; have b0 : w4.cell? ⟨N, 0, none⟩ = some (.int .i64 v.k) := (hb0).cell 0; have bf0 : w4.frozen? ⟨N, 0, none⟩ = false := (hb0).frozen 0; have b1 : w4.cell? ⟨N, 1, none⟩ = some (.int .i64 v.i) := (hb0).cell 1; have bf1 : w4.frozen? ⟨N, 1, none⟩ = false := (hb0).frozen 1; have b2 : w4.cell? ⟨N, 2, none⟩ = some (.int .i64 v.s) := (hb0).cell 2; have bf2 : w4.frozen? ⟨N, 2, none⟩ = false := (hb0).frozen 2; have b3 : w4.cell? ⟨N, 3, none⟩ = some (.string v.t) := (hb0).cell 3; have bf3 : w4.frozen? ⟨N, 3, none⟩ = false := (hb0).frozen 3; have b4 : w4.cell? ⟨N, 4, none⟩ = some (.slice v.la v.ln v.lc) := (hb0).cell 4; have bf4 : w4.frozen? ⟨N, 4, none⟩ = false := (hb0).frozen 4; have b5 : w4.cell? ⟨N, 5, none⟩ = some (.slice v.fa v.fn v.fc) := (hb0).cell 5; have bf5 : w4.frozen? ⟨N, 5, none⟩ = false := (hb0).frozen 5; have r0 : w4.cell? ⟨N + 1 + 1, 0, none⟩ = some (.int .i64 0) := (hb2).cell 0; have rf0 : w4.frozen? ⟨N + 1 + 1, 0, none⟩ = false := (hb2).frozen 0; have r1 : w4.cell? ⟨N + 1 + 1, 1, none⟩ = some (.int .i64 0) := (hb2).cell 1; have rf1 : w4.frozen? ⟨N + 1 + 1, 1, none⟩ = false := (hb2).frozen 1; have r2 : w4.cell? ⟨N + 1 + 1, 2, none⟩ = some (.int .i64 0) := (hb2).cell 2; have rf2 : w4.frozen? ⟨N + 1 + 1, 2, none⟩ = false := (hb2).frozen 2; have r3 : w4.cell? ⟨N + 1 + 1, 3, none⟩ = some (.string ⟨#[]⟩) := (hb2).cell 3; have rf3 : w4.frozen? ⟨N + 1 + 1, 3, none⟩ = false := (hb2).frozen 3; have r4 : w4.cell? ⟨N + 1 + 1, 4, none⟩ = some (.slice none 0 0) := (hb2).cell 4; have rf4 : w4.frozen? ⟨N + 1 + 1, 4, none⟩ = false := (hb2).frozen 4; have r5 : w4.cell? ⟨N + 1 + 1, 5, none⟩ = some (.slice none 0 0) := (hb2).cell 5; have rf5 : w4.frozen? ⟨N + 1 + 1, 5, none⟩ = false := (hb2).frozen 5; clear hown4 ho4 hb0 hb2))
      all_goals
        have HPOST : Hid (∀ wE, Only (fun b => b = N ∨ b = N + 1 + 1) w4 wE → DLastPost S n T ⟨2, (q : Int), nm⟩ w (retV ⟨v.k, v.i, v.s, v.t, A4, v.ln - 1, c4, v.fa, v.fn, v.fc⟩ 0) wE) := Lib.hid fun wE hE =>
          ⟨0, .inr ⟨by rw [HL0.out]; simp, rfl⟩, res_ok (by rw [HDT.out]; exact delL_post HN.out HEQ.out HVA.out ⟨F, HFR.out, HFB.out⟩ (HO1.out.trans HOX.out) HS1.out HRW4.out hE), (HO1.out.trans HOX.out).trans_more (hE.mono (fun b e => .inr (by rw [HN.out]; omega)))⟩
        unfold retV at HPOST
        go_wp2_with fail
        exact bodyPost_ret (v := .tuple #[.agg #[.int .i64 v.k, .int .i64 v.i, .int .i64 v.s, .string v.t, .slice A4 (v.ln - 1) c4, .slice v.fa v.fn v.fc], .int .i64 0]) (by simp [results, Tryz.results23, go_sem, r0, r1, r2, r3, r4, r5]) rfl (HPOST.out _ (by repeat (first | with_reducible exact Only.refl _ _ | with_reducible refine Only.drew ?_ | with_reducible refine Only.alloc ?_ _ | with_reducible refine Only.setCell ?_ (Or.inl ?_) _ | exact rfl | exact Or.inl rfl | exact Or.inr (Or.inl rfl) | exact Or.inr (Or.inr rfl) | exact Or.inr rfl)))
    · have hk1 : k = 1 := by
        rcases hcase with ⟨h1, _⟩ | ⟨h1, _⟩
        · exact h1
        · have h5 := HVAL.out
          have h6 := H4.out
          have h7 := H3.out
          have h8 : k ≠ 3 := by simpa using h7
          have h9 : k ≠ 1 := h1
          unfold validB at h5
          rw [if_neg (by simp only [not_or]; exact ⟨h9, h6⟩), if_neg hk2, if_neg h8] at h5
          cases h5
      subst hk1
      obtain ⟨q, hq, hql⟩ : ∃ q : Nat, fieldL T.f nm = some q ∧ q < T.f.length := by
        rcases hcase with ⟨_, q, h1, h2, _⟩ | ⟨h1, _⟩
        · exact ⟨q, h1, h2⟩
        · exact absurd rfl h1
      have HFJ := Lib.hid (fieldI_some hq)
      have HQ := Lib.hid hq
      have hqn : q < v.fn := by rw [← HFR.out.len, HFB.out.1]; exact hql
      have hfnb : v.fn ≤ 1353245080300 := by have h1 := VT.size_eq T; have h2 := sizeF_len T.f; have h3 := HSZ.out; rw [← HFR.out.len, HFB.out.1]; omega
      clear hcase hq hk2
      have hdt : delT T ⟨1, i, nm⟩ = .mk T.k T.i T.s T.t T.l (T.f.take q ++ T.f.drop (q + 1)) := by unfold delT; rw [if_neg (show ¬ ((1 : Int) = 2) by decide)]; show VT.mk _ _ _ _ _ (T.f.take ((fieldL T.f nm).getD 0) ++ T.f.drop ((fieldL T.f nm).getD 0 + 1)) = _; rw [HQ.out]; rfl
      have HDT := Lib.hid hdt
      clear hdt
      have hw1 : IntKind.i64.wrap ((q : Int) + 1) = (q : Int) + 1 := by rw [IntKind.wrap_i64]; omega
      have HNM : Hid (All2 (fun c x => c.n = x.1) F T.f) := Lib.hid (HFB.out.imp fun _ _ h => h.1)
      go_wp2_with fail
      refine (field_any v F T.f S nm (by omega) w1 (HFR.out.same HO1.out) HNM.out).mono ?_
      rw [FiPost_eq HFJ.out]
      rintro e w2 ⟨rfl, ho2⟩
      have H12 := Lib.hid ho2
      have HO2 := Lib.hid (HO1.out.trans ho2)
      clear ho2 b0 b1 b2 b3 b4 b5 p0 p1 p2
      have b0 : w2.cell? ⟨N, 0, none⟩ = some (.int .i64 v.k) := ((HC0.out w2 H12.out)).cell 0
      have bf0 : w2.frozen? ⟨N, 0, none⟩ = false := ((HC0.out w2 H12.out)).frozen 0
      have b1 : w2.cell? ⟨N, 1, none⟩ = some (.int .i64 v.i) := ((HC0.out w2 H12.out)).cell 1
      have bf1 : w2.frozen? ⟨N, 1, none⟩ = false := ((HC0.out w2 H12.out)).frozen 1
      have b2 : w2.cell? ⟨N, 2, none⟩ = some (.int .i64 v.s) := ((HC0.out w2 H12.out)).cell 2
      have bf2 : w2.frozen? ⟨N, 2, none⟩ = false := ((HC0.out w2 H12.out)).frozen 2
      have b3 : w2.cell? ⟨N, 3, none⟩ = some (.string v.t) := ((HC0.out w2 H12.out)).cell 3
      have bf3 : w2.frozen? ⟨N, 3, none⟩ = false := ((HC0.out w2 H12.out)).frozen 3
      have b4 : w2.cell? ⟨N, 4, none⟩ = some (.slice v.la v.ln v.lc) := ((HC0.out w2 H12.out)).cell 4
      have bf4 : w2.frozen? ⟨N, 4, none⟩ = false := ((HC0.out w2 H12.out)).frozen 4
      have b5 : w2.cell? ⟨N, 5, none⟩ = some (.slice v.fa v.fn v.fc) := ((HC0.out w2 H12.out)).cell 5
      have bf5 : w2.frozen? ⟨N, 5, none⟩ = false := ((HC0.out w2 H12.out)).frozen 5
      go_wp2_with fail
      refine (clonef_any v.fa v.fn v.fc F S w2 (HFR.out.same HO2.out) (by omega)).mono ?_
      rintro e w3 ⟨A3, c3, rfl, hown3, ho3⟩
      have HOW3 : Hid (w3.ownsRow w1.heap.size 59 7 (.slice A3 v.fn c3) v.fn (cells FC.vals F)) := Lib.hid (Go.Joins.ownsRow_le hown3 H12.out.size)
      have HO13 := Lib.hid (H12.out.trans ho3)
      clear hown3 ho3 b0 bf0 b1 bf1 b2 bf2 b3 bf3 b4 bf4 b5 bf5
      have b0 : w3.cell? ⟨N, 0, none⟩ = some (.int .i64 v.k) := ((HC0.out w3 HO13.out)).cell 0
      have bf0 : w3.frozen? ⟨N, 0, none⟩ = false := ((HC0.out w3 HO13.out)).frozen 0
      have b1 : w3.cell? ⟨N, 1, none⟩ = some (.int .i64 v.i) := ((HC0.out w3 HO13.out)).cell 1
      have bf1 : w3.frozen? ⟨N, 1, none⟩ = false := ((HC0.out w3 HO13.out)).frozen 1
      have b2 : w3.cell? ⟨N, 2, none⟩ = some (.int .i64 v.s) := ((HC0.out w3 HO13.out)).cell 2
      have bf2 : w3.frozen? ⟨N, 2, none⟩ = false := ((HC0.out w3 HO13.out)).frozen 2
      have b3 : w3.cell? ⟨N, 3, none⟩ = some (.string v.t) := ((HC0.out w3 HO13.out)).cell 3
      have bf3 : w3.frozen? ⟨N, 3, none⟩ = false := ((HC0.out w3 HO13.out)).frozen 3
      have b4 : w3.cell? ⟨N, 4, none⟩ = some (.slice v.la v.ln v.lc) := ((HC0.out w3 HO13.out)).cell 4
      have bf4 : w3.frozen? ⟨N, 4, none⟩ = false := ((HC0.out w3 HO13.out)).frozen 4
      have b5 : w3.cell? ⟨N, 5, none⟩ = some (.slice v.fa v.fn v.fc) := ((HC0.out w3 HO13.out)).cell 5
      have bf5 : w3.frozen? ⟨N, 5, none⟩ = false := ((HC0.out w3 HO13.out)).frozen 5
      go_wp2_with fail
      refine (delf_any A3 v.fn c3 w1.heap.size q F w3 HOW3.out HFR.out.len hfnb hqn).mono ?_
      rintro e w4 ⟨A4, c4, rfl, hown4, ho4⟩
      have HRW4 := Lib.hid (rowf_low hown4 (Nat.le_refl _))
      have HOX : Hid (Only Nobody w1 w4) := Lib.hid (HO13.out.trans_more (ho4.mono (fun b e => .inr (own_low HOW3.out b e).1)))
      clear hown4 ho4 b0 bf0 b1 bf1 b2 bf2 b3 bf3 b4 bf4 b5 bf5
      have b0 : w4.cell? ⟨N, 0, none⟩ = some (.int .i64 v.k) := ((HC0.out w4 HOX.out)).cell 0
      have bf0 : w4.frozen? ⟨N, 0, none⟩ = false := ((HC0.out w4 HOX.out)).frozen 0
      have b1 : w4.cell? ⟨N, 1, none⟩ = some (.int .i64 v.i) := ((HC0.out w4 HOX.out)).cell 1
      have bf1 : w4.frozen? ⟨N, 1, none⟩ = false := ((HC0.out w4 HOX.out)).frozen 1
      have b2 : w4.cell? ⟨N, 2, none⟩ = some (.int .i64 v.s) := ((HC0.out w4 HOX.out)).cell 2
      have bf2 : w4.frozen? ⟨N, 2, none⟩ = false := ((HC0.out w4 HOX.out)).frozen 2
      have b3 : w4.cell? ⟨N, 3, none⟩ = some (.string v.t) := ((HC0.out w4 HOX.out)).cell 3
      have bf3 : w4.frozen? ⟨N, 3, none⟩ = false := ((HC0.out w4 HOX.out)).frozen 3
      have b4 : w4.cell? ⟨N, 4, none⟩ = some (.slice v.la v.ln v.lc) := ((HC0.out w4 HOX.out)).cell 4
      have bf4 : w4.frozen? ⟨N, 4, none⟩ = false := ((HC0.out w4 HOX.out)).frozen 4
      have b5 : w4.cell? ⟨N, 5, none⟩ = some (.slice v.fa v.fn v.fc) := ((HC0.out w4 HOX.out)).cell 5
      have bf5 : w4.frozen? ⟨N, 5, none⟩ = false := ((HC0.out w4 HOX.out)).frozen 5
      have r0 : w4.cell? ⟨N + 1 + 1, 0, none⟩ = some (.int .i64 0) := ((HC2.out w4 HOX.out)).cell 0
      have rf0 : w4.frozen? ⟨N + 1 + 1, 0, none⟩ = false := ((HC2.out w4 HOX.out)).frozen 0
      have r1 : w4.cell? ⟨N + 1 + 1, 1, none⟩ = some (.int .i64 0) := ((HC2.out w4 HOX.out)).cell 1
      have rf1 : w4.frozen? ⟨N + 1 + 1, 1, none⟩ = false := ((HC2.out w4 HOX.out)).frozen 1
      have r2 : w4.cell? ⟨N + 1 + 1, 2, none⟩ = some (.int .i64 0) := ((HC2.out w4 HOX.out)).cell 2
      have rf2 : w4.frozen? ⟨N + 1 + 1, 2, none⟩ = false := ((HC2.out w4 HOX.out)).frozen 2
      have r3 : w4.cell? ⟨N + 1 + 1, 3, none⟩ = some (.string ⟨#[]⟩) := ((HC2.out w4 HOX.out)).cell 3
      have rf3 : w4.frozen? ⟨N + 1 + 1, 3, none⟩ = false := ((HC2.out w4 HOX.out)).frozen 3
      have r4 : w4.cell? ⟨N + 1 + 1, 4, none⟩ = some (.slice none 0 0) := ((HC2.out w4 HOX.out)).cell 4
      have rf4 : w4.frozen? ⟨N + 1 + 1, 4, none⟩ = false := ((HC2.out w4 HOX.out)).frozen 4
      have r5 : w4.cell? ⟨N + 1 + 1, 5, none⟩ = some (.slice none 0 0) := ((HC2.out w4 HOX.out)).cell 5
      have rf5 : w4.frozen? ⟨N + 1 + 1, 5, none⟩ = false := ((HC2.out w4 HOX.out)).frozen 5
      all_goals
        have HPOST : Hid (∀ wE, Only (fun b => b = N ∨ b = N + 1 + 1) w4 wE → DLastPost S n T ⟨1, i, nm⟩ w (retV ⟨v.k, v.i, v.s, v.t, v.la, v.ln, v.lc, A4, v.fn - 1, c4⟩ 0) wE) := Lib.hid fun wE hE =>
          ⟨0, .inr ⟨by rw [HL0.out]; simp, rfl⟩, res_ok (by rw [HDT.out]; exact delF_post HN.out HEQ.out HFB.out ⟨V, HVR.out, HVA.out⟩ (HO1.out.trans HOX.out) HS1.out HRW4.out hE), (HO1.out.trans HOX.out).trans_more (hE.mono (fun b e => .inr (by rw [HN.out]; omega)))⟩
        unfold retV at HPOST
        go_wp2_with fail
        exact bodyPost_ret (v := .tuple #[.agg #[.int .i64 v.k, .int .i64 v.i, .int .i64 v.s, .string v.t, .slice v.la v.ln v.lc, .slice A4 (v.fn - 1) c4], .int .i64 0]) (by simp [results, Tryz.results23, go_sem, r0, r1, r2, r3, r4, r5]) rfl (HPOST.out _ (by repeat (first | with_reducible exact Only.refl _ _ | with_reducible refine Only.drew ?_ | with_reducible refine Only.alloc ?_ _ | with_reducible refine Only.setCell ?_ (Or.inl ?_) _ | exact rfl | exact Or.inl rfl | exact Or.inr (Or.inl rfl) | exact Or.inr (Or.inr rfl) | exact Or.inr rfl)))
end Go.Proofs.YtdccckoelnnnoaaGreatDoor
