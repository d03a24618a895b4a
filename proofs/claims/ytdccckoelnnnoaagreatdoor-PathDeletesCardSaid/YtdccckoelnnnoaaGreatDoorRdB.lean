/- Path, the reference: Set at one part that is there. -/
import Derived.Test.YtdccckoelnnnoaaGreatDoorRdA
namespace Go.Proofs.YtdccckoelnnnoaaGreatDoor
open Go.RowKit
attribute [local go_sem ↓] Go.wp_at_zero Go.wp_at_succ

theorem vln_le {w : World} {S : Nat → Prop} {n : Nat} {v : VC} {T : VT} (h : VAt w S n v T) (hB : T.size ≤ 140737488351232) : v.ln ≤ 1599289640355 := by
  cases n with
  | zero => exact h.elim
  | succ n =>
    obtain ⟨_, ⟨V, hV, hA⟩, _⟩ := h
    rw [← hV.len, hA.1]
    have := sizeL_len T.l
    have := size_l T
    omega
theorem vfn_le {w : World} {S : Nat → Prop} {n : Nat} {v : VC} {T : VT} (h : VAt w S n v T) (hB : T.size ≤ 140737488351232) : v.fn ≤ 1353245080300 := by
  cases n with
  | zero => exact h.elim
  | succ n =>
    obtain ⟨_, _, ⟨F, hF, hA⟩⟩ := h
    rw [← hF.len, hA.1]
    have := sizeF_len T.f
    have := size_f T
    omega
theorem setF_post {S : Nat → Prop} {n N j cc : Nat} {T Y U : VT} {v y : VC} {nm : ByteArray} {F : List FC} {w wE : World} {A : Option Addr} (hN : w.heap.size = N) (hv : VAt w S (n + 1) v T) (hB : All2 (fun c x => c.n = x.1 ∧ VAt w S n c.v x.2) F T.f) (hy : VAt w S n y Y) (hU : T.f[j]? = some (nm, U))
    (hr : RowA FC.vals 7 wE (fun b => N ≤ b) A v.fn (F.set j ⟨nm, y⟩) ∧ v.fn ≤ cc) (hO : Only (fun b => N ≤ b) w wE) :
    VAt wE (NewS S w) (n + 1) ⟨v.k, v.i, v.s, v.t, v.la, v.ln, v.lc, A, v.fn, cc⟩ (setFT T j Y) := by
  obtain ⟨heq, ⟨V, hV1, hV2⟩, _⟩ := hv
  refine ⟨⟨heq.1, heq.2.1, heq.2.2.1, heq.2.2.2.1, heq.2.2.2.2.1, hr.2⟩, ⟨V, row_keep hV1 hN hO, hV2.imp fun _ _ h => vat_low h hN hO⟩, ⟨_, hr.1.mono (fun b _ hb => .inr (by rw [hN]; exact hb)), ?_⟩⟩
  rw [show (setFT T j Y).f = T.f.set j (nm, Y) from setFT_f hU]
  exact (hB.imp fun _ _ h => ⟨h.1, vat_low h.2 hN hO⟩).set j ⟨rfl, vat_low hy hN hO⟩
theorem cells_next {α : Type} {g : α → List Value} {L : List α} {q : Nat} {o : α} (h : L[q]? = some o) : cells g (L.take q) ++ g o = cells g (L.take (q + 1)) := by
  rw [take_next h, cells_append]
  simp [cells]

set_option maxRecDepth 100000 in
set_option maxHeartbeats 8000000 in
theorem rset0_any (v y : VC) (A : Option Addr) (c : Nat) (w : World) : Calls Tryz.prog 39 #[.agg #[.int .i64 v.k, .int .i64 v.i, .int .i64 v.s, .string v.t, .slice v.la v.ln v.lc, .slice v.fa v.fn v.fc], .slice A 0 c, .agg #[.int .i64 y.k, .int .i64 y.i, .int .i64 y.s, .string y.t, .slice y.la y.ln y.lc, .slice y.fa y.fn y.fc]] w (fun e w' => e = retV y 0 ∧ Only Nobody w w') := by
  obtain ⟨N, HN⟩ : ∃ N, Hid (w.heap.size = N) := ⟨_, Lib.hid rfl⟩
  obtain ⟨W, HW⟩ : ∃ W, Hid (W = (((w.alloc (.cells #[.int .i64 v.k, .int .i64 v.i, .int .i64 v.s, .string v.t, .slice v.la v.ln v.lc, .slice v.fa v.fn v.fc] 25)).alloc (.cells #[.int .i64 y.k, .int .i64 y.i, .int .i64 y.s, .string y.t, .slice y.la y.ln y.lc, .slice y.fa y.fn y.fc] 25)).alloc (.cells #[.int .i64 0, .int .i64 0, .int .i64 0, .string ⟨#[]⟩, .slice none 0 0, .slice none 0 0] 25))) := ⟨_, Lib.hid rfl⟩
  have HOA : Hid (Only Nobody w W) := Lib.hid (by rw [HW.out]; exact (((Only.refl _ _).alloc _).alloc _).alloc _)
  have HB0 : Hid (Blk W (N) 25 #[.int .i64 v.k, .int .i64 v.i, .int .i64 v.s, .string v.t, .slice v.la v.ln v.lc, .slice v.fa v.fn v.fc]) := Lib.hid (by
    have := (Blk.new w 25 #[.int .i64 v.k, .int .i64 v.i, .int .i64 v.s, .string v.t, .slice v.la v.ln v.lc, .slice v.fa v.fn v.fc])
    rw [HW.out, ← HN.out]
    simpa using ((this.alloc (.cells #[.int .i64 y.k, .int .i64 y.i, .int .i64 y.s, .string y.t, .slice y.la y.ln y.lc, .slice y.fa y.fn y.fc] 25)).alloc (.cells #[.int .i64 0, .int .i64 0, .int .i64 0, .string ⟨#[]⟩, .slice none 0 0, .slice none 0 0] 25)))
  have HB1 : Hid (Blk W (N + 1) 25 #[.int .i64 y.k, .int .i64 y.i, .int .i64 y.s, .string y.t, .slice y.la y.ln y.lc, .slice y.fa y.fn y.fc]) := Lib.hid (by
    have := (Blk.new (w.alloc (.cells #[.int .i64 v.k, .int .i64 v.i, .int .i64 v.s, .string v.t, .slice v.la v.ln v.lc, .slice v.fa v.fn v.fc] 25)) 25 #[.int .i64 y.k, .int .i64 y.i, .int .i64 y.s, .string y.t, .slice y.la y.ln y.lc, .slice y.fa y.fn y.fc])
    rw [HW.out, ← HN.out]
    simpa using (this.alloc (.cells #[.int .i64 0, .int .i64 0, .int .i64 0, .string ⟨#[]⟩, .slice none 0 0, .slice none 0 0] 25)))
  have HB2 : Hid (Blk W (N + 1 + 1) 25 #[.int .i64 0, .int .i64 0, .int .i64 0, .string ⟨#[]⟩, .slice none 0 0, .slice none 0 0]) := Lib.hid (by
    have := (Blk.new ((w.alloc (.cells #[.int .i64 v.k, .int .i64 v.i, .int .i64 v.s, .string v.t, .slice v.la v.ln v.lc, .slice v.fa v.fn v.fc] 25)).alloc (.cells #[.int .i64 y.k, .int .i64 y.i, .int .i64 y.s, .string y.t, .slice y.la y.ln y.lc, .slice y.fa y.fn y.fc] 25)) 25 #[.int .i64 0, .int .i64 0, .int .i64 0, .string ⟨#[]⟩, .slice none 0 0, .slice none 0 0])
    rw [HW.out, ← HN.out]
    simpa using this)
  have HWS : Hid (W.heap.size = N + 3) := Lib.hid (by rw [HW.out, ← HN.out]; simp)
  go_enter Tryz.func39, Tryz.ntmps39
  go_upto_region 1 with fail
  rw [← HW.out, HN.out]
  have b0 : W.cell? ⟨N + 1, 0, none⟩ = some (.int .i64 y.k) := (HB1.out).cell 0
  have b1 : W.cell? ⟨N + 1, 1, none⟩ = some (.int .i64 y.i) := (HB1.out).cell 1
  have b2 : W.cell? ⟨N + 1, 2, none⟩ = some (.int .i64 y.s) := (HB1.out).cell 2
  have b3 : W.cell? ⟨N + 1, 3, none⟩ = some (.string y.t) := (HB1.out).cell 3
  have b4 : W.cell? ⟨N + 1, 4, none⟩ = some (.slice y.la y.ln y.lc) := (HB1.out).cell 4
  have b5 : W.cell? ⟨N + 1, 5, none⟩ = some (.slice y.fa y.fn y.fc) := (HB1.out).cell 5
  have r0 : W.cell? ⟨N + 1 + 1, 0, none⟩ = some (.int .i64 0) := (HB2.out).cell 0
  have rf0 : W.frozen? ⟨N + 1 + 1, 0, none⟩ = false := (HB2.out).frozen 0
  have r1 : W.cell? ⟨N + 1 + 1, 1, none⟩ = some (.int .i64 0) := (HB2.out).cell 1
  have rf1 : W.frozen? ⟨N + 1 + 1, 1, none⟩ = false := (HB2.out).frozen 1
  have r2 : W.cell? ⟨N + 1 + 1, 2, none⟩ = some (.int .i64 0) := (HB2.out).cell 2
  have rf2 : W.frozen? ⟨N + 1 + 1, 2, none⟩ = false := (HB2.out).frozen 2
  have r3 : W.cell? ⟨N + 1 + 1, 3, none⟩ = some (.string ⟨#[]⟩) := (HB2.out).cell 3
  have rf3 : W.frozen? ⟨N + 1 + 1, 3, none⟩ = false := (HB2.out).frozen 3
  have r4 : W.cell? ⟨N + 1 + 1, 4, none⟩ = some (.slice none 0 0) := (HB2.out).cell 4
  have rf4 : W.frozen? ⟨N + 1 + 1, 4, none⟩ = false := (HB2.out).frozen 4
  have r5 : W.cell? ⟨N + 1 + 1, 5, none⟩ = some (.slice none 0 0) := (HB2.out).cell 5
  have rf5 : W.frozen? ⟨N + 1 + 1, 5, none⟩ = false := (HB2.out).frozen 5
  go_wp2_with fail
  have HPOST : Hid (∀ wE, Only (fun b => b = N + 1 + 1) W wE → (retV y 0 = retV y 0 ∧ Only Nobody w wE)) := Lib.hid fun wE hE => ⟨rfl, HOA.out.trans_more (hE.mono (fun b e => .inr (by rw [HN.out]; omega)))⟩
  unfold retV at HPOST ⊢
  exact bodyPost_ret (v := .tuple #[.agg #[.int .i64 y.k, .int .i64 y.i, .int .i64 y.s, .string y.t, .slice y.la y.ln y.lc, .slice y.fa y.fn y.fc], .int .i64 0]) (by simp [results, Tryz.results39, go_sem, r0, r1, r2, r3, r4, r5]) rfl (HPOST.out _ (by repeat (first | with_reducible exact Only.refl _ _ | with_reducible refine Only.drew ?_ | with_reducible refine Only.alloc ?_ _ | with_reducible refine Only.setCell ?_ (Or.inl ?_) _ | exact rfl | exact Or.inl rfl | exact Or.inr (Or.inl rfl) | exact Or.inr (Or.inr rfl) | exact Or.inr rfl)))

def RSetPost (S : Nat → Prop) (n : Nat) (T : VT) (w : World) (e : Ending) (w' : World) : Prop := ResV (NewS S w) n 0 T e w' ∧ Only Nobody w w'
set_option maxRecDepth 100000 in
set_option maxHeartbeats 32000000 in
theorem rset1_any (k i : Int) (nm : ByteArray) (v y : VC) (T Y U : VT) (rest : List VT) (S : Nat → Prop) (n c : Nat) (ad : Addr) (w : World) (hval : validB ⟨k, i, nm⟩ = true) (h3 : (k == 3) = false) (hap : appT ⟨k, i, nm⟩ T = true) (hL : leadL ⟨k, i, nm⟩ T = U :: rest) (hsz : T.size ≤ 140737488351232) (h : VAt w S (n + 1) v T) (hy : VAt w S n y Y) (hp : Pts w (some ad) 1 [⟨k, i, nm⟩]) (hc : 2 ≤ c) : Calls Tryz.prog 39 #[.agg #[.int .i64 v.k, .int .i64 v.i, .int .i64 v.s, .string v.t, .slice v.la v.ln v.lc, .slice v.fa v.fn v.fc], .slice (some ad) 1 c, .agg #[.int .i64 y.k, .int .i64 y.i, .int .i64 y.s, .string y.t, .slice y.la y.ln y.lc, .slice y.fa y.fn y.fc]] w (RSetPost S (n + 1) (replT T ⟨k, i, nm⟩ Y) w) := by
  have HVAL := Lib.hid hval
  have H3 := Lib.hid h3
  have HAP := Lib.hid hap
  have HL := Lib.hid hL
  have HV := Lib.hid h
  have HY := Lib.hid hy
  have HP := Lib.hid hp
  have HSZ : Hid (T.size ≤ 140737488351232) := Lib.hid (by omega)
  have HLP := Lib.hid (lead_parts hval h3 hap hL)
  have HPA : Hid (∀ w', Only Nobody w w' → (w'.cell? ad = some (.int .i64 k) ∧ w'.cell? ⟨ad.block, ad.off + 1, none⟩ = some (.int .i64 i) ∧ w'.cell? ⟨ad.block, ad.off + 2, none⟩ = some (.string nm))) := Lib.hid fun w' ho => by
    obtain ⟨z0, z1, z2⟩ := (HP.out.same ho).at_ (i := 0) (o := ⟨k, i, nm⟩) rfl
    rw [Nat.zero_mul, addr_zero] at z0 z1 z2
    exact ⟨z0, z1, z2⟩
  have hk : k = 1 ∨ k = 2 ∨ k = 4 := by
    have h3' : ¬ k = 3 := by simpa using h3
    by_cases k1 : k = 1
    · exact .inl k1
    · by_cases k2 : k = 2
      · exact .inr (.inl k2)
      · by_cases k4 : k = 4
        · exact .inr (.inr k4)
        · simp [validB, k1, k2, h3', k4] at hval
  clear h hy hp hval h3 hap hL
  obtain ⟨N, HN⟩ : ∃ N, Hid (w.heap.size = N) := ⟨_, Lib.hid rfl⟩
  obtain ⟨W, HW⟩ : ∃ W, Hid (W = (((w.alloc (.cells #[.int .i64 v.k, .int .i64 v.i, .int .i64 v.s, .string v.t, .slice v.la v.ln v.lc, .slice v.fa v.fn v.fc] 25)).alloc (.cells #[.int .i64 y.k, .int .i64 y.i, .int .i64 y.s, .string y.t, .slice y.la y.ln y.lc, .slice y.fa y.fn y.fc] 25)).alloc (.cells #[.int .i64 0, .int .i64 0, .int .i64 0, .string ⟨#[]⟩, .slice none 0 0, .slice none 0 0] 25))) := ⟨_, Lib.hid rfl⟩
  have HOA : Hid (Only Nobody w W) := Lib.hid (by rw [HW.out]; exact (((Only.refl _ _).alloc _).alloc _).alloc _)
  have HB0 : Hid (Blk W (N) 25 #[.int .i64 v.k, .int .i64 v.i, .int .i64 v.s, .string v.t, .slice v.la v.ln v.lc, .slice v.fa v.fn v.fc]) := Lib.hid (by
    have := (Blk.new w 25 #[.int .i64 v.k, .int .i64 v.i, .int .i64 v.s, .string v.t, .slice v.la v.ln v.lc, .slice v.fa v.fn v.fc])
    rw [HW.out, ← HN.out]
    simpa using ((this.alloc (.cells #[.int .i64 y.k, .int .i64 y.i, .int .i64 y.s, .string y.t, .slice y.la y.ln y.lc, .slice y.fa y.fn y.fc] 25)).alloc (.cells #[.int .i64 0, .int .i64 0, .int .i64 0, .string ⟨#[]⟩, .slice none 0 0, .slice none 0 0] 25)))
  have HB1 : Hid (Blk W (N + 1) 25 #[.int .i64 y.k, .int .i64 y.i, .int .i64 y.s, .string y.t, .slice y.la y.ln y.lc, .slice y.fa y.fn y.fc]) := Lib.hid (by
    have := (Blk.new (w.alloc (.cells #[.int .i64 v.k, .int .i64 v.i, .int .i64 v.s, .string v.t, .slice v.la v.ln v.lc, .slice v.fa v.fn v.fc] 25)) 25 #[.int .i64 y.k, .int .i64 y.i, .int .i64 y.s, .string y.t, .slice y.la y.ln y.lc, .slice y.fa y.fn y.fc])
    rw [HW.out, ← HN.out]
    simpa using (this.alloc (.cells #[.int .i64 0, .int .i64 0, .int .i64 0, .string ⟨#[]⟩, .slice none 0 0, .slice none 0 0] 25)))
  have HB2 : Hid (Blk W (N + 1 + 1) 25 #[.int .i64 0, .int .i64 0, .int .i64 0, .string ⟨#[]⟩, .slice none 0 0, .slice none 0 0]) := Lib.hid (by
    have := (Blk.new ((w.alloc (.cells #[.int .i64 v.k, .int .i64 v.i, .int .i64 v.s, .string v.t, .slice v.la v.ln v.lc, .slice v.fa v.fn v.fc] 25)).alloc (.cells #[.int .i64 y.k, .int .i64 y.i, .int .i64 y.s, .string y.t, .slice y.la y.ln y.lc, .slice y.fa y.fn y.fc] 25)) 25 #[.int .i64 0, .int .i64 0, .int .i64 0, .string ⟨#[]⟩, .slice none 0 0, .slice none 0 0])
    rw [HW.out, ← HN.out]
    simpa using this)
  have HWS : Hid (W.heap.size = N + 3) := Lib.hid (by rw [HW.out, ← HN.out]; simp)
  go_enter Tryz.func39, Tryz.ntmps39
  go_upto_region 1 with fail
  rw [← HW.out, HN.out]
  go_upto_region 3 with fail
  have HOX := Lib.hid (Only.refl Nobody W)
  have HN4 : Hid (W.heap.size ≤ W.heap.size) := Lib.hid (Nat.le_refl _)
  have HSC : Hid (∀ w', Only Nobody W w' → (w'.cell? ⟨N, 0, none⟩ = some (.int .i64 v.k) ∧ w'.cell? ⟨N, 1, none⟩ = some (.int .i64 v.i) ∧ w'.cell? ⟨N, 2, none⟩ = some (.int .i64 v.s) ∧ w'.cell? ⟨N, 3, none⟩ = some (.string v.t) ∧ w'.cell? ⟨N, 4, none⟩ = some (.slice v.la v.ln v.lc) ∧ w'.cell? ⟨N, 5, none⟩ = some (.slice v.fa v.fn v.fc)) ∧ (w'.cell? ad = some (.int .i64 k) ∧ w'.cell? ⟨ad.block, ad.off + 1, none⟩ = some (.int .i64 i) ∧ w'.cell? ⟨ad.block, ad.off + 2, none⟩ = some (.string nm))) := Lib.hid fun w' ho => by
    have h0 := ho.blk HB0.out (fun x => x)
    exact ⟨⟨h0.cell 0, h0.cell 1, h0.cell 2, h0.cell 3, h0.cell 4, h0.cell 5⟩, HPA.out w' (HOA.out.trans ho)⟩
  have hsc := HSC.out W HOX.out
  go_cut [8, 9] (fun a b wx => ∃ A3 c3 u, a = .slice (some A3) 1 c3 ∧ b = .bool true ∧ Hid (RowA VC.vals 6 wx Any_ (some A3) 1 [u]) ∧ Only Nobody W wx)
  case first =>
    go_region_held3 (fun w' => (w'.cell? ⟨N, 0, none⟩ = some (.int .i64 v.k) ∧ w'.cell? ⟨N, 1, none⟩ = some (.int .i64 v.i) ∧ w'.cell? ⟨N, 2, none⟩ = some (.int .i64 v.s) ∧ w'.cell? ⟨N, 3, none⟩ = some (.string v.t) ∧ w'.cell? ⟨N, 4, none⟩ = some (.slice v.la v.ln v.lc) ∧ w'.cell? ⟨N, 5, none⟩ = some (.slice v.fa v.fn v.fc)) ∧ (w'.cell? ad = some (.int .i64 k) ∧ w'.cell? ⟨ad.block, ad.off + 1, none⟩ = some (.int .i64 i) ∧ w'.cell? ⟨ad.block, ad.off + 2, none⟩ = some (.string nm))) (exact HSC.out _ (by repeat (first | with_reducible exact HOX.out | with_reducible exact Only.refl _ _ | with_reducible refine Only.drew ?_ | with_reducible refine Only.alloc ?_ _ | with_reducible refine Only.setCell ?_ (Or.inr ?_) _ | exact HN4.out | exact Nat.le_refl _))) (first
      | (go_at_call 38; refine (rlead_any k i nm v T (fun b => S b ∧ b < N) (n + 1) HVAL.out HSZ.out _ ((vat_in HV.out HN.out HOA.out).same (by repeat (first | with_reducible exact HOX.out | with_reducible exact Only.refl _ _ | with_reducible refine Only.drew ?_ | with_reducible refine Only.alloc ?_ _ | with_reducible refine Only.setCell ?_ (Or.inr ?_) _ | exact HN4.out | exact Nat.le_refl _)))).mono ?_; rintro e w3 ⟨A3, m3, c3, V3, rfl, hr3, ha3, ho3⟩; have HR3 := Lib.hid hr3; have HA3 := Lib.hid (ha3 HAP.out); have HOX : Hid (Only Nobody W w3) := Lib.hid (Only.trans (by repeat (first | with_reducible exact HOX.out | with_reducible exact Only.refl _ _ | with_reducible refine Only.drew ?_ | with_reducible refine Only.alloc ?_ _ | with_reducible refine Only.setCell ?_ (Or.inr ?_) _ | exact HN4.out | exact Nat.le_refl _)) ho3); clear hr3 ha3 ho3))
    all_goals
      obtain ⟨A4, u, rfl, rfl, rfl⟩ : ∃ A4 u, A3 = some A4 ∧ m3 = 1 ∧ V3 = [u] := by
        have h1 := HA3.out.1
        rw [HL.out, HLP.out.1] at h1
        have h2 := HR3.out.len
        obtain ⟨a4, e4⟩ := HR3.out.some_ (by rw [← h2, h1]; simp)
        match V3, h1 with
        | [u], _ => exact ⟨a4, u, e4, h2.symm, rfl⟩
      rw [HAP.out]
      go_wp2_with fail
      go_meet
      exact ⟨A4, c3, u, rfl, rfl, HR3, HOX.out⟩
  case rest =>
    obtain ⟨A3, c3, u, rfl, rfl, HR3, hox⟩ := hcut
    have HWC := Lib.hid hox
    have HUC : Hid (∀ w', Only Nobody wc w' → w'.cell? A3 = some (.int .i64 u.k) ∧ w'.cell? ⟨A3.block, A3.off + 1, none⟩ = some (.int .i64 u.i) ∧ w'.cell? ⟨A3.block, A3.off + 2, none⟩ = some (.int .i64 u.s) ∧ w'.cell? ⟨A3.block, A3.off + 3, none⟩ = some (.string u.t) ∧ w'.cell? ⟨A3.block, A3.off + 4, none⟩ = some (.slice u.la u.ln u.lc) ∧ w'.cell? ⟨A3.block, A3.off + 5, none⟩ = some (.slice u.fa u.fn u.fc)) := Lib.hid fun w' h => by
      obtain ⟨z0, z1, z2, z3, z4, z5⟩ := (HR3.out.same h).vat (i := 0) (o := u) rfl
      rw [Nat.zero_mul, addr_zero] at z0 z1 z2 z3 z4 z5
      exact ⟨z0, z1, z2, z3, z4, z5⟩
    have HSY : Hid (∀ w', Only Nobody wc w' → (w'.cell? A3 = some (.int .i64 u.k) ∧ w'.cell? ⟨A3.block, A3.off + 1, none⟩ = some (.int .i64 u.i) ∧ w'.cell? ⟨A3.block, A3.off + 2, none⟩ = some (.int .i64 u.s) ∧ w'.cell? ⟨A3.block, A3.off + 3, none⟩ = some (.string u.t) ∧ w'.cell? ⟨A3.block, A3.off + 4, none⟩ = some (.slice u.la u.ln u.lc) ∧ w'.cell? ⟨A3.block, A3.off + 5, none⟩ = some (.slice u.fa u.fn u.fc)) ∧ (w'.cell? ⟨N + 1, 0, none⟩ = some (.int .i64 y.k) ∧ w'.cell? ⟨N + 1, 1, none⟩ = some (.int .i64 y.i) ∧ w'.cell? ⟨N + 1, 2, none⟩ = some (.int .i64 y.s) ∧ w'.cell? ⟨N + 1, 3, none⟩ = some (.string y.t) ∧ w'.cell? ⟨N + 1, 4, none⟩ = some (.slice y.la y.ln y.lc) ∧ w'.cell? ⟨N + 1, 5, none⟩ = some (.slice y.fa y.fn y.fc))) := Lib.hid fun w' ho => by
      have h1 := (HWC.out.trans ho).blk HB1.out (fun x => x)
      exact ⟨HUC.out w' ho, ⟨h1.cell 0, h1.cell 1, h1.cell 2, h1.cell 3, h1.cell 4, h1.cell 5⟩⟩
    have HOX := Lib.hid (Only.refl Nobody wc)
    have HN4 : Hid (wc.heap.size ≤ wc.heap.size) := Lib.hid (Nat.le_refl _)
    have HZ3 : Hid (∀ w', Only Nobody (wc.alloc (.cells #[.int .i64 0, .int .i64 0, .int .i64 0, .string ⟨#[]⟩, .slice none 0 0, .slice none 0 0] 25)) w' → Blk w' wc.heap.size 25 #[.int .i64 0, .int .i64 0, .int .i64 0, .string ⟨#[]⟩, .slice none 0 0, .slice none 0 0]) := Lib.hid fun w' h' => h'.blk (Blk.new wc _ _) (fun x => x)
    have hsy := HSY.out wc HOX.out
    have hpc := HPA.out wc (HOA.out.trans HWC.out)
    have h1c : (1 : Int) ≤ (c : Int) := by omega
    have hc1 : ¬ (c = 1) := by omega
    clear hsc hox
    go_upto_region 6 with fail
    go_cut [42] (fun a wx => a = .bool false ∧ wx = wc)
    case first =>
      rcases hk with rfl | rfl | rfl
      all_goals
        go_wp2_with fail
        go_meet
        exact ⟨rfl, rfl⟩
    case rest =>
    obtain ⟨rfl, rfl⟩ := hcut
    go_upto_region 12 with fail
    go_cut [10, 11] (fun yb ee wx => ∃ Yb, yb = .pointer (some ⟨Yb, 0, none⟩) ∧ ee = .int .i64 0 ∧ Blk wx Yb 25 #[.int .i64 y.k, .int .i64 y.i, .int .i64 y.s, .string y.t, .slice y.la y.ln y.lc, .slice y.fa y.fn y.fc] ∧ N + 3 ≤ Yb ∧ Only Nobody wc wx)
    case first =>
        go_region_held3 (fun w' => (w'.cell? A3 = some (.int .i64 u.k) ∧ w'.cell? ⟨A3.block, A3.off + 1, none⟩ = some (.int .i64 u.i) ∧ w'.cell? ⟨A3.block, A3.off + 2, none⟩ = some (.int .i64 u.s) ∧ w'.cell? ⟨A3.block, A3.off + 3, none⟩ = some (.string u.t) ∧ w'.cell? ⟨A3.block, A3.off + 4, none⟩ = some (.slice u.la u.ln u.lc) ∧ w'.cell? ⟨A3.block, A3.off + 5, none⟩ = some (.slice u.fa u.fn u.fc)) ∧ (w'.cell? ⟨N + 1, 0, none⟩ = some (.int .i64 y.k) ∧ w'.cell? ⟨N + 1, 1, none⟩ = some (.int .i64 y.i) ∧ w'.cell? ⟨N + 1, 2, none⟩ = some (.int .i64 y.s) ∧ w'.cell? ⟨N + 1, 3, none⟩ = some (.string y.t) ∧ w'.cell? ⟨N + 1, 4, none⟩ = some (.slice y.la y.ln y.lc) ∧ w'.cell? ⟨N + 1, 5, none⟩ = some (.slice y.fa y.fn y.fc))) (exact HSY.out _ (by repeat (first | with_reducible exact HOX.out | with_reducible exact Only.refl _ _ | with_reducible refine Only.drew ?_ | with_reducible refine Only.alloc ?_ _ | with_reducible refine Only.setCell ?_ (Or.inr ?_) _ | exact HN4.out | exact Nat.le_refl _))) (first
          | (go_at_call 39; refine (rset0_any u y _ _ _).mono ?_; rintro e w4 ⟨rfl, ho4⟩; unfold retV; (first | ((first | (with_reducible have HBK := HZ3.out w4 ho4) | (have HBK := HZ3.out w4 (Only.trans (Only.refl _ _).drew ho4))); have e0 : w4.cell? ⟨wc.heap.size, 0, none⟩ = some (.int .i64 0) := HBK.cell 0; have ef0 : w4.frozen? ⟨wc.heap.size, 0, none⟩ = false := HBK.frozen 0; have e1 : w4.cell? ⟨wc.heap.size, 1, none⟩ = some (.int .i64 0) := HBK.cell 1; have ef1 : w4.frozen? ⟨wc.heap.size, 1, none⟩ = false := HBK.frozen 1; have e2 : w4.cell? ⟨wc.heap.size, 2, none⟩ = some (.int .i64 0) := HBK.cell 2; have ef2 : w4.frozen? ⟨wc.heap.size, 2, none⟩ = false := HBK.frozen 2; have e3 : w4.cell? ⟨wc.heap.size, 3, none⟩ = some (.string ⟨#[]⟩) := HBK.cell 3; have ef3 : w4.frozen? ⟨wc.heap.size, 3, none⟩ = false := HBK.frozen 3; have e4 : w4.cell? ⟨wc.heap.size, 4, none⟩ = some (.slice none 0 0) := HBK.cell 4; have ef4 : w4.frozen? ⟨wc.heap.size, 4, none⟩ = false := HBK.frozen 4; have e5 : w4.cell? ⟨wc.heap.size, 5, none⟩ = some (.slice none 0 0) := HBK.cell 5; have ef5 : w4.frozen? ⟨wc.heap.size, 5, none⟩ = false := HBK.frozen 5; have HBK := Lib.hid HBK) | (have HBK := Blk.new w4 25 #[.int .i64 0, .int .i64 0, .int .i64 0, .string ⟨#[]⟩, .slice none 0 0, .slice none 0 0]; have e0 : (w4.alloc (.cells #[.int .i64 0, .int .i64 0, .int .i64 0, .string ⟨#[]⟩, .slice none 0 0, .slice none 0 0] 25)).cell? ⟨w4.heap.size, 0, none⟩ = some (.int .i64 0) := HBK.cell 0; have ef0 : (w4.alloc (.cells #[.int .i64 0, .int .i64 0, .int .i64 0, .string ⟨#[]⟩, .slice none 0 0, .slice none 0 0] 25)).frozen? ⟨w4.heap.size, 0, none⟩ = false := HBK.frozen 0; have e1 : (w4.alloc (.cells #[.int .i64 0, .int .i64 0, .int .i64 0, .string ⟨#[]⟩, .slice none 0 0, .slice none 0 0] 25)).cell? ⟨w4.heap.size, 1, none⟩ = some (.int .i64 0) := HBK.cell 1; have ef1 : (w4.alloc (.cells #[.int .i64 0, .int .i64 0, .int .i64 0, .string ⟨#[]⟩, .slice none 0 0, .slice none 0 0] 25)).frozen? ⟨w4.heap.size, 1, none⟩ = false := HBK.frozen 1; have e2 : (w4.alloc (.cells #[.int .i64 0, .int .i64 0, .int .i64 0, .string ⟨#[]⟩, .slice none 0 0, .slice none 0 0] 25)).cell? ⟨w4.heap.size, 2, none⟩ = some (.int .i64 0) := HBK.cell 2; have ef2 : (w4.alloc (.cells #[.int .i64 0, .int .i64 0, .int .i64 0, .string ⟨#[]⟩, .slice none 0 0, .slice none 0 0] 25)).frozen? ⟨w4.heap.size, 2, none⟩ = false := HBK.frozen 2; have e3 : (w4.alloc (.cells #[.int .i64 0, .int .i64 0, .int .i64 0, .string ⟨#[]⟩, .slice none 0 0, .slice none 0 0] 25)).cell? ⟨w4.heap.size, 3, none⟩ = some (.string ⟨#[]⟩) := HBK.cell 3; have ef3 : (w4.alloc (.cells #[.int .i64 0, .int .i64 0, .int .i64 0, .string ⟨#[]⟩, .slice none 0 0, .slice none 0 0] 25)).frozen? ⟨w4.heap.size, 3, none⟩ = false := HBK.frozen 3; have e4 : (w4.alloc (.cells #[.int .i64 0, .int .i64 0, .int .i64 0, .string ⟨#[]⟩, .slice none 0 0, .slice none 0 0] 25)).cell? ⟨w4.heap.size, 4, none⟩ = some (.slice none 0 0) := HBK.cell 4; have ef4 : (w4.alloc (.cells #[.int .i64 0, .int .i64 0, .int .i64 0, .string ⟨#[]⟩, .slice none 0 0, .slice none 0 0] 25)).frozen? ⟨w4.heap.size, 4, none⟩ = false := HBK.frozen 4; have e5 : (w4.alloc (.cells #[.int .i64 0, .int .i64 0, .int .i64 0, .string ⟨#[]⟩, .slice none 0 0, .slice none 0 0] 25)).cell? ⟨w4.heap.size, 5, none⟩ = some (.slice none 0 0) := HBK.cell 5; have ef5 : (w4.alloc (.cells #[.int .i64 0, .int .i64 0, .int .i64 0, .string ⟨#[]⟩, .slice none 0 0, .slice none 0 0] 25)).frozen? ⟨w4.heap.size, 5, none⟩ = false := HBK.frozen 5; have HBK := Lib.hid HBK)); have HOX : Hid (Only Nobody wc w4) := Lib.hid (Only.trans (by repeat (first | with_reducible exact HOX.out | with_reducible exact Only.refl _ _ | with_reducible refine Only.drew ?_ | with_reducible refine Only.alloc ?_ _ | with_reducible refine Only.setCell ?_ (Or.inr ?_) _ | exact HN4.out | exact Nat.le_refl _)) ho4); have HN4 : Hid (wc.heap.size ≤ w4.heap.size) := Lib.hid HOX.out.size; clear ho4))
        all_goals
          go_wp2_with fail
          go_meet
          refine ⟨_, rfl, rfl, ?_, ?_, ?_⟩
          · first
              | with_reducible exact Blk.new _ _ _
              | exact (((((HBK.out.set_ 0 _).set_ 1 _).set_ 2 _).set_ 3 _).set_ 4 _).set_ 5 _
          · have h1 := HWC.out.size
            have h2 := HN4.out
            rw [HWS.out] at h1
            omega
          · exact (by repeat (first | with_reducible exact HOX.out | with_reducible exact Only.refl _ _ | with_reducible refine Only.drew ?_ | with_reducible refine Only.alloc ?_ _ | with_reducible refine Only.setCell ?_ (Or.inr ?_) _ | exact HN4.out | exact Nat.le_refl _))
    case rest =>
      obtain ⟨Yb, rfl, rfl, hby, hYb, hox⟩ := hcut
      have HOC : Hid (Only Nobody w wc) := Lib.hid ((HOA.out.trans HWC.out).trans hox)
      have HWw : Hid (Only Nobody W wc) := Lib.hid (HWC.out.trans hox)
      have HBY : Hid (∀ w', Only Nobody wc w' → Blk w' Yb 25 #[.int .i64 y.k, .int .i64 y.i, .int .i64 y.s, .string y.t, .slice y.la y.ln y.lc, .slice y.fa y.fn y.fc]) := Lib.hid fun w' h => h.blk hby (fun x => x)
      have HC0 : Hid (∀ w', Only Nobody wc w' → Blk w' N 25 #[.int .i64 v.k, .int .i64 v.i, .int .i64 v.s, .string v.t, .slice v.la v.ln v.lc, .slice v.fa v.fn v.fc]) := Lib.hid fun w' h => (HWw.out.trans h).blk HB0.out (fun x => x)
      have HC2 : Hid (∀ w', Only Nobody wc w' → Blk w' (N + 1 + 1) 25 #[.int .i64 0, .int .i64 0, .int .i64 0, .string ⟨#[]⟩, .slice none 0 0, .slice none 0 0]) := Lib.hid fun w' h => (HWw.out.trans h).blk HB2.out (fun x => x)
      have hs3 : Hid (N + 3 ≤ wc.heap.size) := Lib.hid (by rw [← HWS.out]; exact HWw.out.size)
      have HSA : Hid (∀ w', Only (fun b => b = N + 1 + 1) wc w' → (w'.cell? ⟨N, 0, none⟩ = some (.int .i64 v.k) ∧ w'.cell? ⟨N, 1, none⟩ = some (.int .i64 v.i) ∧ w'.cell? ⟨N, 2, none⟩ = some (.int .i64 v.s) ∧ w'.cell? ⟨N, 3, none⟩ = some (.string v.t) ∧ w'.cell? ⟨N, 4, none⟩ = some (.slice v.la v.ln v.lc) ∧ w'.cell? ⟨N, 5, none⟩ = some (.slice v.fa v.fn v.fc)) ∧ (w'.cell? ad = some (.int .i64 k) ∧ w'.cell? ⟨ad.block, ad.off + 1, none⟩ = some (.int .i64 i) ∧ w'.cell? ⟨ad.block, ad.off + 2, none⟩ = some (.string nm)) ∧ (w'.cell? ⟨Yb, 0, none⟩ = some (.int .i64 y.k) ∧ w'.cell? ⟨Yb, 1, none⟩ = some (.int .i64 y.i) ∧ w'.cell? ⟨Yb, 2, none⟩ = some (.int .i64 y.s) ∧ w'.cell? ⟨Yb, 3, none⟩ = some (.string y.t) ∧ w'.cell? ⟨Yb, 4, none⟩ = some (.slice y.la y.ln y.lc) ∧ w'.cell? ⟨Yb, 5, none⟩ = some (.slice y.fa y.fn y.fc))) := Lib.hid fun w' h => by
        have h0 := h.blk (HC0.out wc (Only.refl _ _)) (by omega)
        have h1 := h.blk (HBY.out wc (Only.refl _ _)) (by omega)
        exact ⟨⟨h0.cell 0, h0.cell 1, h0.cell 2, h0.cell 3, h0.cell 4, h0.cell 5⟩, HPA.out w' (HOC.out.trans_more (h.mono (fun b e => .inr (by rw [HN.out]; omega)))), ⟨h1.cell 0, h1.cell 1, h1.cell 2, h1.cell 3, h1.cell 4, h1.cell 5⟩⟩
      have HOX := Lib.hid (Only.refl Nobody wc)
      have HN4 : Hid (wc.heap.size ≤ wc.heap.size) := Lib.hid (Nat.le_refl _)
      clear hby hox hsy hpc
      have HOXG := Lib.hid (Only.refl (fun b => b = N + 1 + 1) wc)
      have hsa := HSA.out wc HOXG.out
      have HVC : Hid (∀ w', Only Nobody wc w' → VAt w' (fun b => S b ∧ b < N) (n + 1) v T) := Lib.hid fun w' h => (vat_in HV.out HN.out HOC.out).same h
      have HYC : Hid (∀ w', Only Nobody wc w' → VAt w' (fun b => S b ∧ b < N) n y Y) := Lib.hid fun w' h => (vat_in HY.out HN.out HOC.out).same h
      rcases hk with rfl | rfl | rfl
      · 
        obtain ⟨j, hj, hjl, hjU⟩ : ∃ j, fieldL T.f nm = some j ∧ j < T.f.length ∧ T.f[j]? = some (nm, U) := by
          rcases HLP.out.2 with ⟨_, j, h1, h2, h3⟩ | ⟨h1, _⟩
          · exact ⟨j, h1, h2, h3⟩
          · exact absurd rfl h1
        have hfn : v.fn ≤ 1353245080300 := vfn_le HV.out HSZ.out
        obtain ⟨heq0, hL0, ⟨F, hF0, hB⟩⟩ := HV.out
        clear heq0 hL0
        have hF : RowA FC.vals 7 wc (fun b => S b ∧ b < N) v.fa v.fn F := (hF0.mono (S' := fun b => S b ∧ b < N) (fun b hb hs => ⟨hs, by rw [← HN.out]; exact hb⟩)).same HOC.out

        have HB0F := Lib.hid hB
        have HF := Lib.hid hF
        have HTF : Hid (T.f.length = v.fn) := Lib.hid (by rw [← hB.1, hF.len])
        have hjn : j < v.fn := by rw [← HTF.out]; exact hjl
        have HNM : Hid (∀ q o, F[q]? = some o → (q < j → ¬ o.n = nm) ∧ (q = j → o.n = nm)) := Lib.hid fun q o ho => by
          obtain ⟨x, hx, hn, _⟩ := hB.get ho
          refine ⟨fun h e => (fieldL_some hj).2 q x h hx (by rw [← hn]; exact e), fun h => ?_⟩
          subst h
          rw [hjU] at hx
          cases hx
          exact hn
        obtain ⟨F1, HF1⟩ : ∃ F1, Hid (F1 = F.set j ⟨nm, y⟩) := ⟨_, Lib.hid rfl⟩
        have HRT : Hid (replT T ⟨1, i, nm⟩ Y = setFT T j Y) := Lib.hid (by unfold replT; rw [if_pos rfl, hj]; rfl)
        have HJU := Lib.hid hjU
        clear hF hF0 hB hj hjl hjU
        go_upto_region 21 with fail
        obtain ⟨K, HK⟩ : ∃ K, Hid (wc.heap.size = K) := ⟨_, Lib.hid rfl⟩
        obtain ⟨W3, HW3⟩ : ∃ W3, Hid (W3 = wc.alloc (.cells #[.int .i64 v.k, .int .i64 v.i, .int .i64 v.s, .string v.t, .slice v.la v.ln v.lc, .slice none 0 0] 25)) := ⟨_, Lib.hid rfl⟩
        rw [← HW3.out, HK.out]
        have hKN : N + 3 ≤ K := by rw [← HK.out]; exact hs3.out
        have HO3 : Hid (Only Nobody wc W3) := Lib.hid (by rw [HW3.out]; exact (Only.refl _ _).alloc _)
        have HS3 : Hid (W3.heap.size = K + 1) := Lib.hid (by rw [HW3.out, ← HK.out]; simp)
        have HBO : Hid (Blk W3 K 25 #[.int .i64 v.k, .int .i64 v.i, .int .i64 v.s, .string v.t, .slice v.la v.ln v.lc, .slice none 0 0]) := Lib.hid (by rw [HW3.out, ← HK.out]; exact Blk.new _ _ _)
        have HYK : Hid (Yb < K) := Lib.hid (by rw [← HK.out]; exact (HBY.out wc HOX.out).lt)
        have HFW : Hid (∀ w', Only (fun b => b = K) W3 w' → RowA FC.vals 7 w' (fun b => S b ∧ b < N) v.fa v.fn F) := Lib.hid fun w' h => ((HF.out.same HO3.out).keep h (fun b hb e => by have := hb.2; omega))
        have HSB : Hid (∀ w', Only (fun b => b = K) W3 w' → (w'.cell? ⟨N, 0, none⟩ = some (.int .i64 v.k) ∧ w'.cell? ⟨N, 1, none⟩ = some (.int .i64 v.i) ∧ w'.cell? ⟨N, 2, none⟩ = some (.int .i64 v.s) ∧ w'.cell? ⟨N, 3, none⟩ = some (.string v.t) ∧ w'.cell? ⟨N, 4, none⟩ = some (.slice v.la v.ln v.lc) ∧ w'.cell? ⟨N, 5, none⟩ = some (.slice v.fa v.fn v.fc)) ∧ (w'.cell? ad = some (.int .i64 1) ∧ w'.cell? ⟨ad.block, ad.off + 1, none⟩ = some (.int .i64 i) ∧ w'.cell? ⟨ad.block, ad.off + 2, none⟩ = some (.string nm)) ∧ (w'.cell? ⟨Yb, 0, none⟩ = some (.int .i64 y.k) ∧ w'.cell? ⟨Yb, 1, none⟩ = some (.int .i64 y.i) ∧ w'.cell? ⟨Yb, 2, none⟩ = some (.int .i64 y.s) ∧ w'.cell? ⟨Yb, 3, none⟩ = some (.string y.t) ∧ w'.cell? ⟨Yb, 4, none⟩ = some (.slice y.la y.ln y.lc) ∧ w'.cell? ⟨Yb, 5, none⟩ = some (.slice y.fa y.fn y.fc))) := Lib.hid fun w' h => by
          have h0 := h.blk (HC0.out W3 HO3.out) (by omega)
          have h1 := h.blk (HBY.out W3 HO3.out) (by have := HYK.out; omega)
          exact ⟨⟨h0.cell 0, h0.cell 1, h0.cell 2, h0.cell 3, h0.cell 4, h0.cell 5⟩, HPA.out w' ((HOC.out.trans HO3.out).trans_more (h.mono (fun b e => .inr (by rw [HN.out]; omega)))), ⟨h1.cell 0, h1.cell 1, h1.cell 2, h1.cell 3, h1.cell 4, h1.cell 5⟩⟩
        have HLEN := Lib.hid HF.out.len
        obtain ⟨adf, hadf⟩ := HF.out.some_ (by omega)
        have HADF := Lib.hid hadf
        have HJN := Lib.hid hjn
        clear hadf hsa
        go_wp2_with fail
        go_loopw [13, 14] (fun dn iv wx => ∃ q : Nat, iv = .int .i64 (q : Int) ∧ q ≤ v.fn ∧ dn = .bool (decide (j < q)) ∧ Hid (Only Nobody W3 wx)) (fun _ iv _ => v.fn - (intOf iv).toNat)
        case atStart => exact ⟨0, rfl, Nat.zero_le _, rfl, Lib.hid (Only.refl _ _)⟩
        case round =>
          obtain ⟨q, rfl, hq, rfl, HON⟩ := hrel
          have hq0 : (0 : Int) ≤ (q : Int) := by omega
          have HONK : Hid (Only (fun b => b = K) W3 wr) := Lib.hid (HON.out.mono (fun _ x => x.elim))
          obtain ⟨⟨b0, b1, b2, b3, b4, b5⟩, ⟨p0, p1, p2⟩, _⟩ := HSB.out wr HONK.out
          by_cases hqn : q < v.fn
          · have hqI : (q : Int) < (v.fn : Int) := by omega
            obtain ⟨o, ho⟩ := HF.out.get hqn
            have HFR := HFW.out wr HONK.out
            rw [HADF.out] at HFR b5
            obtain ⟨a0, a1, a2, a3, a4, a5, a6⟩ := HFR.fat ho
            obtain ⟨hn1, hn2⟩ := HNM.out q o ho
            clear HFR ho a1 a2 a3 a4 a5 a6 b0 b1 b2 b3 b4 p0 p1
            rcases Nat.lt_trichotomy j q with hjq | hjq | hjq
            · have hd : decide (j < q) = true := decide_eq_true hjq
              have hd2 : Hid (decide (j < q + 1) = true) := Lib.hid (decide_eq_true (by omega))
              rw [hd]
              clear hn1 hn2
              go_upto_region 25 with fail
              go_quiet (fail)
              have HONn := Lib.hid (HON.out.drewN nq)
              go_wp2_with fail
              go_roundw
              case rel => first | exact ⟨q + 1, by go_num, by omega, by rw [hd2.out], HONn⟩ | ((repeat apply Exists.intro); exact ⟨⟨q + 1, by go_num, by omega, by rw [hd2.out], HONn⟩, rfl⟩)
              case measure => simp [intOf]; omega
            · have hd : decide (j < q) = false := decide_eq_false (by omega)
              have hd2 : Hid (decide (j < q + 1) = true) := Lib.hid (decide_eq_true (by omega))
              rw [hd]
              have hnm := hn2 hjq.symm
              have hcb : (o.n.toList == nm.toList) = true := by rw [bytes_eq, decide_eq_true hnm]
              have hcl : o.n.toList = nm.toList := by rw [hnm]
              clear hn1 hn2 hnm
              go_upto_region 25 with fail
              go_quiet (fail)
              have HONn := Lib.hid (HON.out.drewN nq)
              go_wp2_with fail
              go_roundw
              case rel => first | exact ⟨q + 1, by go_num, by omega, by rw [hd2.out], HONn⟩ | ((repeat apply Exists.intro); exact ⟨⟨q + 1, by go_num, by omega, by rw [hd2.out], HONn⟩, rfl⟩)
              case measure => simp [intOf]; omega
            · have hd : decide (j < q) = false := decide_eq_false (by omega)
              have hd2 : Hid (decide (j < q + 1) = false) := Lib.hid (decide_eq_false (by omega))
              rw [hd]
              have hnm := hn1 hjq
              have hcb : (o.n.toList == nm.toList) = false := by rw [bytes_eq, decide_eq_false hnm]
              have hcl : ¬ o.n.toList = nm.toList := by simpa using hcb
              clear hn1 hn2 hnm
              go_upto_region 25 with fail
              go_quiet (fail)
              have HONn := Lib.hid (HON.out.drewN nq)
              go_wp2_with fail
              go_roundw
              case rel => first | exact ⟨q + 1, by go_num, by omega, by rw [hd2.out], HONn⟩ | ((repeat apply Exists.intro); exact ⟨⟨q + 1, by go_num, by omega, by rw [hd2.out], HONn⟩, rfl⟩)
              case measure => simp [intOf]; omega
          · obtain rfl : q = v.fn := by omega
            have hd : decide (j < v.fn) = true := decide_eq_true hjn
            rw [hd]
            clear b0 b1 b2 b3 b4 p0 p1 p2 hd
            go_wp2_with fail
            clear b5
            go_loopw [13, 15, 16] (fun dn rp iv wx => ∃ (q : Nat) (A : Option Addr) (cc : Nat), iv = .int .i64 (q : Int) ∧ q ≤ v.fn ∧ dn = .bool true ∧ rp = .bool (decide (j < q)) ∧ Hid (Blk wx K 25 #[.int .i64 v.k, .int .i64 v.i, .int .i64 v.s, .string v.t, .slice v.la v.ln v.lc, .slice A q cc]) ∧ Hid (wx.ownsRow (K + 1) 59 7 (.slice A q cc) q (cells FC.vals (F1.take q))) ∧ Hid (Only (fun b => b = K) W3 wx)) (fun _ _ iv _ => v.fn - (intOf iv).toNat)
            case atStart => exact ⟨0, none, 0, rfl, Nat.zero_le _, rfl, rfl, Lib.hid (HON.out.blk HBO.out (fun x => x)), Lib.hid ⟨by simp [cells], .inl ⟨rfl, rfl⟩⟩, HONK⟩
            case round =>
              clear HON HONK hq hqn hq0
              obtain ⟨q, A, cc, rfl, hq, rfl, rfl, HBR, HRW, HON⟩ := hrel
              have hq0 : (0 : Int) ≤ (q : Int) := by omega
              obtain ⟨⟨b0, b1, b2, b3, b4, b5⟩, ⟨p0, p1, p2⟩, ⟨y0, y1, y2, y3, y4, y5⟩⟩ := HSB.out wr HON.out
              obtain ⟨i0, hi0, hz0, hz1, hz2⟩ := info_parts infoF
              by_cases hqn : q < v.fn
              · have hqI : (q : Int) < (v.fn : Int) := by omega
                obtain ⟨o, ho⟩ := HF.out.get hqn
                have HOq := Lib.hid ho
                have HFR := HFW.out wr HON.out
                rw [HADF.out] at HFR b5
                obtain ⟨a0, a1, a2, a3, a4, a5, a6⟩ := HFR.fat ho
                obtain ⟨hn1, hn2⟩ := HNM.out q o ho
                clear HFR ho
                go_upto_region 31 with fail
                obtain ⟨WF, HWF⟩ : ∃ WF, Hid (WF = wr.alloc (.cells #[.string o.n, .int .i64 o.v.k, .int .i64 o.v.i, .int .i64 o.v.s, .string o.v.t, .slice o.v.la o.v.ln o.v.lc, .slice o.v.fa o.v.fn o.v.fc] 59)) := ⟨_, Lib.hid rfl⟩
                obtain ⟨Fb, HFb⟩ : ∃ Fb, Hid (wr.heap.size = Fb) := ⟨_, Lib.hid rfl⟩
                rw [← HWF.out, HFb.out]
                have hrK : K + 1 ≤ wr.heap.size := by rw [← HS3.out]; exact HON.out.size
                have HFK : Hid (K + 1 ≤ Fb) := Lib.hid (by rw [← HFb.out]; exact hrK)
                have HBF : Hid (Blk WF Fb 59 #[.string o.n, .int .i64 o.v.k, .int .i64 o.v.i, .int .i64 o.v.s, .string o.v.t, .slice o.v.la o.v.ln o.v.lc, .slice o.v.fa o.v.fn o.v.fc]) := Lib.hid (by rw [HWF.out, ← HFb.out]; exact Blk.new _ _ _)
                have HOF : Hid (Only (fun b => b = K) W3 WF) := Lib.hid (by rw [HWF.out]; exact HON.out.alloc _)
                have HWFr : Hid (Only Nobody wr WF) := Lib.hid (by rw [HWF.out]; exact (Only.refl _ _).alloc _)
                have HRF : Hid (∀ w', Only (fun b => b = Fb) WF w' → w'.ownsRow (K + 1) 59 7 (.slice A q cc) q (cells FC.vals (F1.take q)) ∧ Blk w' K 25 #[.int .i64 v.k, .int .i64 v.i, .int .i64 v.s, .string v.t, .slice v.la v.ln v.lc, .slice A q cc]) := Lib.hid fun w' h =>
                  ⟨h.row (HWFr.out.row HRW.out (fun _ _ x => x)) (fun b e e2 => by have := (HRW.out.lt b e).2; rw [HFb.out] at this; omega), h.blk (HWFr.out.blk HBR.out (fun x => x)) (by have := HFK.out; omega)⟩
                clear a0 a1 a2 a3 a4 a5 a6 b0 b1 b2 b3 b4 b5 p0 p1 p2 y0 y1 y2 y3 y4 y5 hrK
                have f0 : WF.cell? ⟨Fb, 0, none⟩ = some (.string o.n) := HBF.out.cell 0
                obtain ⟨_, ⟨p0, p1, p2⟩, ⟨y0, y1, y2, y3, y4, y5⟩⟩ := HSB.out WF HOF.out
                have HOX := Lib.hid (Only.refl Nobody WF)
                go_cut [135] (fun a wx => a = .bool false ∧ Only Nobody WF wx)
                case first =>
                  go_quiet (fail)
                  go_wp2_with fail
                  go_meet
                  exact ⟨rfl, (Only.refl _ _).drewN _⟩
                case rest =>
                obtain ⟨rfl, hox⟩ := hcut
                have HX1 := Lib.hid hox
                have HOG : Hid (Only (fun b => b = K) W3 wc) := Lib.hid (HOF.out.trans (hox.mono (fun _ x => x.elim)))
                have HBG : Hid (Blk wc Fb 59 #[.string o.n, .int .i64 o.v.k, .int .i64 o.v.i, .int .i64 o.v.s, .string o.v.t, .slice o.v.la o.v.ln o.v.lc, .slice o.v.fa o.v.fn o.v.fc]) := Lib.hid (hox.blk HBF.out (fun x => x))
                clear hox f0 p0 p1 p2 y0 y1 y2 y3 y4 y5
                have f0 : wc.cell? ⟨Fb, 0, none⟩ = some (.string o.n) := HBG.out.cell 0
                obtain ⟨_, ⟨p0, p1, p2⟩, ⟨y0, y1, y2, y3, y4, y5⟩⟩ := HSB.out wc HOG.out
                go_upto_region 34 with fail
                go_cut [15, 157] (fun rp a wx => rp = .bool (decide (j < q)) ∧ a = .bool (decide (q = j)) ∧ Only Nobody wc wx)
                case first =>
                  rcases Nat.lt_trichotomy j q with hjq | hjq | hjq
                  · have hd : decide (j < q) = true := decide_eq_true hjq
                    have HD2 : Hid (decide (q = j) = false) := Lib.hid (decide_eq_false (by omega))
                    have HD := Lib.hid hd
                    rw [hd]
                    clear hd
                    clear hn1 hn2
                    go_quiet (fail)
                    go_wp2_with fail
                    go_meet
                    exact ⟨by rw [HD.out], by rw [HD2.out], (Only.refl _ _).drewN _⟩
                  · have hd : decide (j < q) = false := decide_eq_false (by omega)
                    have HD2 : Hid (decide (q = j) = true) := Lib.hid (decide_eq_true hjq.symm)
                    have HD := Lib.hid hd
                    rw [hd]
                    clear hd
                    have hnm := hn2 hjq.symm
                    have hcb : (o.n.toList == nm.toList) = true := by rw [bytes_eq, decide_eq_true hnm]
                    have hcl : o.n.toList = nm.toList := by rw [hnm]
                    clear hn1 hn2 hnm
                    go_quiet (fail)
                    go_wp2_with fail
                    go_meet
                    exact ⟨by rw [HD.out], by rw [HD2.out], (Only.refl _ _).drewN _⟩
                  · have hd : decide (j < q) = false := decide_eq_false (by omega)
                    have HD2 : Hid (decide (q = j) = false) := Lib.hid (decide_eq_false (by omega))
                    have HD := Lib.hid hd
                    rw [hd]
                    clear hd
                    have hnm := hn1 hjq
                    have hcb : (o.n.toList == nm.toList) = false := by rw [bytes_eq, decide_eq_false hnm]
                    have hcl : ¬ o.n.toList = nm.toList := by simpa using hcb
                    clear hn1 hn2 hnm
                    go_quiet (fail)
                    go_wp2_with fail
                    go_meet
                    exact ⟨by rw [HD.out], by rw [HD2.out], (Only.refl _ _).drewN _⟩
                case rest =>
                clear f0 p0 p1 p2 y0 y1 y2 y3 y4 y5 hn1
                have HOG0 := HOG
                have HBG0 := HBG
                clear HOG HBG
                obtain ⟨rfl, rfl, hox⟩ := hcut
                have HX2 := Lib.hid (HX1.out.trans hox)
                have HOG : Hid (Only (fun b => b = K) W3 wc) := Lib.hid (HOG0.out.trans (hox.mono (fun _ x => x.elim)))
                have HBG : Hid (Blk wc Fb 59 #[.string o.n, .int .i64 o.v.k, .int .i64 o.v.i, .int .i64 o.v.s, .string o.v.t, .slice o.v.la o.v.ln o.v.lc, .slice o.v.fa o.v.fn o.v.fc]) := Lib.hid (hox.blk HBG0.out (fun x => x))
                clear hox HOG0 HBG0
                go_upto_if 157 with fail
                go_cut [15] (fun rp wx => rp = .bool (decide (j < q + 1)) ∧ ∃ o', F1[q]? = some o' ∧ Blk wx Fb 59 #[.string o'.n, .int .i64 o'.v.k, .int .i64 o'.v.i, .int .i64 o'.v.s, .string o'.v.t, .slice o'.v.la o'.v.ln o'.v.lc, .slice o'.v.fa o'.v.fn o'.v.fc] ∧ Only (fun b => b = Fb) wc wx)
                case first =>
                  by_cases hqj : q = j
                  · have hd : decide (q = j) = true := decide_eq_true hqj
                    have HD : Hid (decide (j < q + 1) = true) := Lib.hid (decide_eq_true (by omega))
                    have HO1 : Hid (F1[q]? = some ⟨nm, y⟩) := Lib.hid (by rw [HF1.out, hqj]; exact List.getElem?_set_self (by rw [HLEN.out]; exact HJN.out))
                    have HNM2 : Hid (o.n = nm) := Lib.hid (hn2 hqj)
                    rw [hd]
                    clear hd hqj hn2
                    obtain ⟨_, _, ⟨y0, y1, y2, y3, y4, y5⟩⟩ := HSB.out wc HOG.out
                    have f0 : wc.cell? ⟨Fb, 0, none⟩ = some (.string o.n) := (HBG.out).cell 0
                    have ff0 : wc.frozen? ⟨Fb, 0, none⟩ = false := (HBG.out).frozen 0
                    have f1 : wc.cell? ⟨Fb, 1, none⟩ = some (.int .i64 o.v.k) := (HBG.out).cell 1
                    have ff1 : wc.frozen? ⟨Fb, 1, none⟩ = false := (HBG.out).frozen 1
                    have f2 : wc.cell? ⟨Fb, 2, none⟩ = some (.int .i64 o.v.i) := (HBG.out).cell 2
                    have ff2 : wc.frozen? ⟨Fb, 2, none⟩ = false := (HBG.out).frozen 2
                    have f3 : wc.cell? ⟨Fb, 3, none⟩ = some (.int .i64 o.v.s) := (HBG.out).cell 3
                    have ff3 : wc.frozen? ⟨Fb, 3, none⟩ = false := (HBG.out).frozen 3
                    have f4 : wc.cell? ⟨Fb, 4, none⟩ = some (.string o.v.t) := (HBG.out).cell 4
                    have ff4 : wc.frozen? ⟨Fb, 4, none⟩ = false := (HBG.out).frozen 4
                    have f5 : wc.cell? ⟨Fb, 5, none⟩ = some (.slice o.v.la o.v.ln o.v.lc) := (HBG.out).cell 5
                    have ff5 : wc.frozen? ⟨Fb, 5, none⟩ = false := (HBG.out).frozen 5
                    have f6 : wc.cell? ⟨Fb, 6, none⟩ = some (.slice o.v.fa o.v.fn o.v.fc) := (HBG.out).cell 6
                    have ff6 : wc.frozen? ⟨Fb, 6, none⟩ = false := (HBG.out).frozen 6
                    go_wp2_with fail
                    go_meet
                    refine ⟨by rw [HD.out], ⟨nm, y⟩, HO1.out, ?_, ?_⟩
                    · rw [← HNM2.out]
                      exact (((((HBG.out.set_ 1 _).set_ 2 _).set_ 3 _).set_ 4 _).set_ 5 _).set_ 6 _
                    · exact (by repeat (first | with_reducible exact Only.refl _ _ | with_reducible refine Only.drew ?_ | with_reducible refine Only.alloc ?_ _ | with_reducible refine Only.setCell ?_ (Or.inl ?_) _ | exact rfl))
                  · have hd : decide (q = j) = false := decide_eq_false hqj
                    have HD : Hid (decide (j < q) = decide (j < q + 1)) := Lib.hid (by congr 1; apply propext; omega)
                    have HO1 : Hid (F1[q]? = some o) := Lib.hid (by rw [HF1.out, List.getElem?_set_ne (fun e => hqj e.symm)]; exact HOq.out)
                    rw [hd]
                    clear hd hqj hn2
                    go_wp2_with fail
                    go_meet
                    exact ⟨by rw [HD.out], o, HO1.out, HBG.out, Only.refl _ _⟩
                case rest =>
                clear hn2
                obtain ⟨rfl, o1, ho1, hb1, hox⟩ := hcut
                have HX3 : Hid (Only (fun b => b = Fb) WF wc) := Lib.hid ((HX2.out.mono (fun _ x => x.elim)).trans hox)
                have HO1 := Lib.hid ho1
                have HB1 := Lib.hid hb1
                clear ho1 hox hb1
                go_upto_region 37 with fail
                obtain ⟨hrow, hbk⟩ := HRF.out wc HX3.out
                have HROW := Lib.hid hrow
                have HBK := Lib.hid hbk
                have HLT := Lib.hid hrow.lt
                have HRWa : Hid ((wc.alloc (.cells #[.string o1.n, .int .i64 o1.v.k, .int .i64 o1.v.i, .int .i64 o1.v.s, .string o1.v.t, .slice o1.v.la o1.v.ln o1.v.lc, .slice o1.v.fa o1.v.fn o1.v.fc] 59)).ownsRow (K + 1) 59 7 (.slice A q cc) q (cells FC.vals (F1.take q))) := Lib.hid (((Only.refl Nobody wc).alloc _).row hrow (fun _ _ x => x))
                have HRD : Hid (Reads (wc.alloc (.cells #[.string o1.n, .int .i64 o1.v.k, .int .i64 o1.v.i, .int .i64 o1.v.s, .string o1.v.t, .slice o1.v.la o1.v.ln o1.v.lc, .slice o1.v.fa o1.v.fn o1.v.fc] 59)) (wc.heap.size + 1) 7 (some ⟨wc.heap.size, 0, none⟩) 1 o1.vals) := Lib.hid (reads_alloc wc 59 #[.string o1.n, .int .i64 o1.v.k, .int .i64 o1.v.i, .int .i64 o1.v.s, .string o1.v.t, .slice o1.v.la o1.v.ln o1.v.lc, .slice o1.v.fa o1.v.fn o1.v.fc] 7 1 rfl)
                have HU := Lib.hid (one_f o1)
                have HKC : Hid (K + 1 ≤ wc.heap.size) := Lib.hid (by have h1 := HX3.out.size; have h2 := HOF.out.size; rw [HS3.out] at h2; omega)
                have HBB : Hid (K + 1 ≤ (wc.alloc (.cells #[.string o1.n, .int .i64 o1.v.k, .int .i64 o1.v.i, .int .i64 o1.v.s, .string o1.v.t, .slice o1.v.la o1.v.ln o1.v.lc, .slice o1.v.fa o1.v.fn o1.v.fc] 59)).heap.size) := Lib.hid (by have := HKC.out; simp; omega)
                have HBY : Hid (q + 1 ≤ maxLen ∧ (q + 1) * 104 ≤ 140737488355328) := Lib.hid (by unfold maxLen; omega)
                have hk5 : wc.cell? ⟨K, 5, none⟩ = some (.slice A q cc) := hbk.cell 5
                have f0 : wc.cell? ⟨Fb, 0, none⟩ = some (.string o1.n) := (HB1.out).cell 0
                have ff0 : wc.frozen? ⟨Fb, 0, none⟩ = false := (HB1.out).frozen 0
                have f1 : wc.cell? ⟨Fb, 1, none⟩ = some (.int .i64 o1.v.k) := (HB1.out).cell 1
                have ff1 : wc.frozen? ⟨Fb, 1, none⟩ = false := (HB1.out).frozen 1
                have f2 : wc.cell? ⟨Fb, 2, none⟩ = some (.int .i64 o1.v.i) := (HB1.out).cell 2
                have ff2 : wc.frozen? ⟨Fb, 2, none⟩ = false := (HB1.out).frozen 2
                have f3 : wc.cell? ⟨Fb, 3, none⟩ = some (.int .i64 o1.v.s) := (HB1.out).cell 3
                have ff3 : wc.frozen? ⟨Fb, 3, none⟩ = false := (HB1.out).frozen 3
                have f4 : wc.cell? ⟨Fb, 4, none⟩ = some (.string o1.v.t) := (HB1.out).cell 4
                have ff4 : wc.frozen? ⟨Fb, 4, none⟩ = false := (HB1.out).frozen 4
                have f5 : wc.cell? ⟨Fb, 5, none⟩ = some (.slice o1.v.la o1.v.ln o1.v.lc) := (HB1.out).cell 5
                have ff5 : wc.frozen? ⟨Fb, 5, none⟩ = false := (HB1.out).frozen 5
                have f6 : wc.cell? ⟨Fb, 6, none⟩ = some (.slice o1.v.fa o1.v.fn o1.v.fc) := (HB1.out).cell 6
                have ff6 : wc.frozen? ⟨Fb, 6, none⟩ = false := (HB1.out).frozen 6
                clear hrow hbk
                go_wp2_with (at_builtin; refine wpList_append_any _ rfl (.tmp 161) (.tmp 163) _ rfl (K + 1) 59 i0 _ 7 104 Tryz.underlying23 hi0 hz0 hz1 hz2 rfl (by omega) (.slice A q cc) q (cells FC.vals (F1.take q)) rfl HRWa.out _ (some ⟨wc.heap.size, 0, none⟩) 1 1 o1.vals rfl HRD.out HU.out HBY.out.1 HBY.out.2 HBB.out ?_)
                intro v5 w5 hown5 hgr5 hat5
                obtain ⟨A5, c5, rfl⟩ := own_form hown5
                have HB5 : Hid (Blk w5 K 25 #[.int .i64 v.k, .int .i64 v.i, .int .i64 v.s, .string v.t, .slice v.la v.ln v.lc, .slice A q cc]) := Lib.hid ((Only.of_grown hgr5 (F := fun b => Value.ownBlock (.slice A q cc) = some b) (fun b e => e)).blk (HBK.out.alloc _) (fun e => by have := (HLT.out K e).1; omega))
                have hk5' : w5.cell? ⟨K, 5, none⟩ = some (.slice A q cc) := HB5.out.cell 5
                have hkf5 : w5.frozen? ⟨K, 5, none⟩ = false := HB5.out.frozen 5
                have HB6 : Hid (Blk (w5.setCell ⟨K, 5, none⟩ (.slice A5 (q + 1) c5)) K 25 #[.int .i64 v.k, .int .i64 v.i, .int .i64 v.s, .string v.t, .slice v.la v.ln v.lc, .slice A5 (q + 1) c5]) := Lib.hid (HB5.out.set_ 5 _)
                have HR6 : Hid ((w5.setCell ⟨K, 5, none⟩ (.slice A5 (q + 1) c5)).ownsRow (K + 1) 59 7 (.slice A5 (q + 1) c5) (q + 1) (cells FC.vals (F1.take (q + 1)))) := Lib.hid (by
                  rw [cells_next HO1.out] at hown5
                  exact ((Only.refl (fun b => b = K) w5).setCell (p := ⟨K, 5, none⟩) (.inl rfl) _).row hown5 (fun b e e2 => by have := (hown5.lt b e).1; omega))
                have HO6 : Hid (Only (fun b => b = K) W3 (w5.setCell ⟨K, 5, none⟩ (.slice A5 (q + 1) c5))) := Lib.hid (((((HOF.out.trans_more (HX3.out.mono (fun b e => .inr (by rw [HS3.out, e]; exact HFK.out)))).alloc _).trans_more (Only.of_grown hgr5 (fun b e => .inr (by rw [HS3.out]; exact (HLT.out b e).1))))).setCell (p := ⟨K, 5, none⟩) (.inl rfl) _)
                clear hown5 hgr5 hat5 hk5 f0 f1 f2 f3 f4 f5 f6 ff0 ff1 ff2 ff3 ff4 ff5 ff6
                go_wp2_with fail
                go_roundw
                case rel => first | exact ⟨q + 1, A5, c5, by go_num, by omega, rfl, rfl, HB6, HR6, HO6⟩ | ((repeat apply Exists.intro); exact ⟨⟨q + 1, A5, c5, by go_num, by omega, rfl, rfl, HB6, HR6, HO6⟩, rfl⟩)
                case measure => simp [intOf]; omega
              · obtain rfl : q = v.fn := by omega
                have hlen1 : F1.length = v.fn := by rw [HF1.out, List.length_set]; exact HLEN.out
                have HRL := Lib.hid (rowf_low (B := K + 1) (F := F1) (by have h := HRW.out; rw [List.take_of_length_le (by omega)] at h; exact h) (Nat.le_refl _))
                have HBN : Hid (Blk wr (N + 1 + 1) 25 #[.int .i64 0, .int .i64 0, .int .i64 0, .string ⟨#[]⟩, .slice none 0 0, .slice none 0 0]) := Lib.hid (HON.out.blk (HC2.out W3 HO3.out) (by omega))
                have HPOST : Hid (∀ wE, Only (fun b => b = N + 1 + 1) wr wE → RSetPost S (n + 1) (replT T ⟨1, i, nm⟩ Y) w (retV ⟨v.k, v.i, v.s, v.t, v.la, v.ln, v.lc, A, v.fn, cc⟩ 0) wE) := Lib.hid fun wE hE => by
                  have hOE : Only Nobody w wE := ((HOC.out.trans HO3.out).trans_more (HON.out.mono (fun b e => .inr (by rw [HN.out]; omega)))).trans_more (hE.mono (fun b e => .inr (by rw [HN.out]; omega)))
                  refine ⟨?_, hOE⟩
                  rw [HRT.out]
                  have hr := HRL.out
                  rw [HF1.out] at hr
                  exact res_ok (setF_post HN.out HV.out HB0F.out HY.out HJU.out ⟨(hr.1.keep hE (fun b hb e => by have h7 : K + 1 ≤ b := hb; omega)).mono (fun b _ hb => by have h7 : K + 1 ≤ b := hb; show N ≤ b; omega), hr.2⟩ (hOE.mono (fun _ x => x.elim)))
                clear y0 y1 y2 y3 y4 y5 p0 p1 p2 hlen1
                have o0 : wr.cell? ⟨K, 0, none⟩ = some (.int .i64 v.k) := HBR.out.cell 0
                have o1 : wr.cell? ⟨K, 1, none⟩ = some (.int .i64 v.i) := HBR.out.cell 1
                have o2 : wr.cell? ⟨K, 2, none⟩ = some (.int .i64 v.s) := HBR.out.cell 2
                have o3 : wr.cell? ⟨K, 3, none⟩ = some (.string v.t) := HBR.out.cell 3
                have o4 : wr.cell? ⟨K, 4, none⟩ = some (.slice v.la v.ln v.lc) := HBR.out.cell 4
                have o5 : wr.cell? ⟨K, 5, none⟩ = some (.slice A v.fn cc) := HBR.out.cell 5
                have r0 : wr.cell? ⟨N + 1 + 1, 0, none⟩ = some (.int .i64 0) := (HBN.out).cell 0
                have rf0 : wr.frozen? ⟨N + 1 + 1, 0, none⟩ = false := (HBN.out).frozen 0
                have r1 : wr.cell? ⟨N + 1 + 1, 1, none⟩ = some (.int .i64 0) := (HBN.out).cell 1
                have rf1 : wr.frozen? ⟨N + 1 + 1, 1, none⟩ = false := (HBN.out).frozen 1
                have r2 : wr.cell? ⟨N + 1 + 1, 2, none⟩ = some (.int .i64 0) := (HBN.out).cell 2
                have rf2 : wr.frozen? ⟨N + 1 + 1, 2, none⟩ = false := (HBN.out).frozen 2
                have r3 : wr.cell? ⟨N + 1 + 1, 3, none⟩ = some (.string ⟨#[]⟩) := (HBN.out).cell 3
                have rf3 : wr.frozen? ⟨N + 1 + 1, 3, none⟩ = false := (HBN.out).frozen 3
                have r4 : wr.cell? ⟨N + 1 + 1, 4, none⟩ = some (.slice none 0 0) := (HBN.out).cell 4
                have rf4 : wr.frozen? ⟨N + 1 + 1, 4, none⟩ = false := (HBN.out).frozen 4
                have r5 : wr.cell? ⟨N + 1 + 1, 5, none⟩ = some (.slice none 0 0) := (HBN.out).cell 5
                have rf5 : wr.frozen? ⟨N + 1 + 1, 5, none⟩ = false := (HBN.out).frozen 5
                unfold retV at HPOST
                go_wp2_with fail
                exact bodyPost_ret (v := .tuple #[.agg #[.int .i64 v.k, .int .i64 v.i, .int .i64 v.s, .string v.t, .slice v.la v.ln v.lc, .slice A v.fn cc], .int .i64 0]) (by simp [results, Tryz.results39, go_sem, r0, r1, r2, r3, r4, r5]) rfl (HPOST.out _ (by repeat (first | with_reducible exact Only.refl _ _ | with_reducible refine Only.drew ?_ | with_reducible refine Only.alloc ?_ _ | with_reducible refine Only.setCell ?_ (Or.inl ?_) _ | exact rfl | exact Or.inl rfl | exact Or.inr (Or.inl rfl) | exact Or.inr (Or.inr rfl) | exact Or.inr rfl)))
      · obtain ⟨q, rfl, hq⟩ : ∃ q : Nat, i = (q : Int) ∧ q < T.l.length := by
          rcases HLP.out.2 with ⟨h1, _⟩ | ⟨_, q, hq, hl, _⟩
          · exact absurd h1 (by simp)
          · exact ⟨q, hq, hl⟩
        have HRT : Hid (replT T ⟨2, (q : Int), nm⟩ Y = setLT T q Y) := Lib.hid (by unfold replT; rw [if_neg (by simp)]; rfl)
        have hvln : v.ln ≤ 1599289640355 := vln_le HV.out HSZ.out
        go_upto_region 16 with fail
        go_region_held3 (fun w' => (w'.cell? ⟨N, 0, none⟩ = some (.int .i64 v.k) ∧ w'.cell? ⟨N, 1, none⟩ = some (.int .i64 v.i) ∧ w'.cell? ⟨N, 2, none⟩ = some (.int .i64 v.s) ∧ w'.cell? ⟨N, 3, none⟩ = some (.string v.t) ∧ w'.cell? ⟨N, 4, none⟩ = some (.slice v.la v.ln v.lc) ∧ w'.cell? ⟨N, 5, none⟩ = some (.slice v.fa v.fn v.fc)) ∧ (w'.cell? ad = some (.int .i64 2) ∧ w'.cell? ⟨ad.block, ad.off + 1, none⟩ = some (.int .i64 (q : Int)) ∧ w'.cell? ⟨ad.block, ad.off + 2, none⟩ = some (.string nm)) ∧ (w'.cell? ⟨Yb, 0, none⟩ = some (.int .i64 y.k) ∧ w'.cell? ⟨Yb, 1, none⟩ = some (.int .i64 y.i) ∧ w'.cell? ⟨Yb, 2, none⟩ = some (.int .i64 y.s) ∧ w'.cell? ⟨Yb, 3, none⟩ = some (.string y.t) ∧ w'.cell? ⟨Yb, 4, none⟩ = some (.slice y.la y.ln y.lc) ∧ w'.cell? ⟨Yb, 5, none⟩ = some (.slice y.fa y.fn y.fc))) (exact HSA.out _ (by repeat (first | with_reducible exact HOXG.out | with_reducible exact Only.refl _ _ | with_reducible refine Only.drew ?_ | with_reducible refine Only.alloc ?_ _ | with_reducible refine Only.setCell ?_ (Or.inl ?_) _ | exact rfl))) (first
          | (go_at_call 53; refine (with_any v y T Y q (fun b => S b ∧ b < N) n _ (HVC.out _ (by repeat (first | with_reducible exact HOX.out | with_reducible exact Only.refl _ _ | with_reducible refine Only.drew ?_ | with_reducible refine Only.alloc ?_ _ | with_reducible refine Only.setCell ?_ (Or.inr ?_) _ | exact HN4.out | exact Nat.le_refl _))) (HYC.out _ (by repeat (first | with_reducible exact HOX.out | with_reducible exact Only.refl _ _ | with_reducible refine Only.drew ?_ | with_reducible refine Only.alloc ?_ _ | with_reducible refine Only.setCell ?_ (Or.inr ?_) _ | exact HN4.out | exact Nat.le_refl _))) hq hvln).mono ?_; rintro e w4 ⟨v4, rfl, hv4, ho4⟩; have HOX : Hid (Only Nobody wc w4) := Lib.hid (Only.trans (by repeat (first | with_reducible exact HOX.out | with_reducible exact Only.refl _ _ | with_reducible refine Only.drew ?_ | with_reducible refine Only.alloc ?_ _ | with_reducible refine Only.setCell ?_ (Or.inr ?_) _ | exact HN4.out | exact Nat.le_refl _)) ho4); have HOXG : Hid (Only (fun b => b = N + 1 + 1) wc w4) := Lib.hid (HOX.out.mono (fun _ x => x.elim)); have HBR := Lib.hid (HC2.out w4 HOX.out); have HP4 : Hid (∀ wE, Only (fun b => b = N + 1 + 1) w4 wE → RSetPost S (n + 1) (replT T ⟨2, (q : Int), nm⟩ Y) w (retV v4 0) wE) := Lib.hid (fun wE hE => ⟨(by rw [HRT.out]; exact res_ok (vat_new2 hv4 HN.out hs3.out (by omega) (Only.trans (Only.refl _ _) hE) (fun b e => (by omega)))), (HOC.out.trans HOX.out).trans_more (hE.mono (fun b e => .inr (by rw [HN.out]; omega)))⟩); have r0 : w4.cell? ⟨N + 1 + 1, 0, none⟩ = some (.int .i64 0) := (HBR.out).cell 0; have rf0 : w4.frozen? ⟨N + 1 + 1, 0, none⟩ = false := (HBR.out).frozen 0; have r1 : w4.cell? ⟨N + 1 + 1, 1, none⟩ = some (.int .i64 0) := (HBR.out).cell 1; have rf1 : w4.frozen? ⟨N + 1 + 1, 1, none⟩ = false := (HBR.out).frozen 1; have r2 : w4.cell? ⟨N + 1 + 1, 2, none⟩ = some (.int .i64 0) := (HBR.out).cell 2; have rf2 : w4.frozen? ⟨N + 1 + 1, 2, none⟩ = false := (HBR.out).frozen 2; have r3 : w4.cell? ⟨N + 1 + 1, 3, none⟩ = some (.string ⟨#[]⟩) := (HBR.out).cell 3; have rf3 : w4.frozen? ⟨N + 1 + 1, 3, none⟩ = false := (HBR.out).frozen 3; have r4 : w4.cell? ⟨N + 1 + 1, 4, none⟩ = some (.slice none 0 0) := (HBR.out).cell 4; have rf4 : w4.frozen? ⟨N + 1 + 1, 4, none⟩ = false := (HBR.out).frozen 4; have r5 : w4.cell? ⟨N + 1 + 1, 5, none⟩ = some (.slice none 0 0) := (HBR.out).cell 5; have rf5 : w4.frozen? ⟨N + 1 + 1, 5, none⟩ = false := (HBR.out).frozen 5; clear hv4 ho4))
        all_goals
          unfold retV at HP4
          go_wp2_with fail
          exact bodyPost_ret (v := .tuple #[.agg #[.int .i64 v4.k, .int .i64 v4.i, .int .i64 v4.s, .string v4.t, .slice v4.la v4.ln v4.lc, .slice v4.fa v4.fn v4.fc], .int .i64 0]) (by simp [results, Tryz.results39, go_sem, r0, r1, r2, r3, r4, r5]) rfl (HP4.out _ (by repeat (first | with_reducible exact Only.refl _ _ | with_reducible refine Only.drew ?_ | with_reducible refine Only.alloc ?_ _ | with_reducible refine Only.setCell ?_ (Or.inl ?_) _ | exact rfl | exact Or.inl rfl | exact Or.inr (Or.inl rfl) | exact Or.inr (Or.inr rfl) | exact Or.inr rfl)))
      · obtain ⟨rfl, hq⟩ : i = 0 ∧ 0 < T.l.length := by
          rcases HLP.out.2 with ⟨h1, _⟩ | ⟨_, q, hq, hl, _⟩
          · exact absurd h1 (by simp)
          · refine ⟨?_, by omega⟩
            have hv := HVAL.out
            unfold validB at hv
            rw [if_pos (.inr rfl)] at hv
            have := (Bool.and_eq_true _ _ ▸ hv : _ ∧ _).1
            simpa using this
        have HRT : Hid (replT T ⟨4, 0, nm⟩ Y = setLT T 0 Y) := Lib.hid (by unfold replT; rw [if_neg (by simp)]; rfl)
        have hvln : v.ln ≤ 1599289640355 := vln_le HV.out HSZ.out
        go_wp2_with fail
        refine (with_any v y T Y 0 (fun b => S b ∧ b < N) n wc (HVC.out wc HOX.out) (HYC.out wc HOX.out) hq hvln).mono ?_
        rintro e w4 ⟨v4, rfl, hv4, ho4⟩
        have HBR := Lib.hid (HC2.out w4 ho4)
        have HP4 : Hid (∀ wE, Only (fun b => b = N + 1 + 1) w4 wE → RSetPost S (n + 1) (replT T ⟨4, 0, nm⟩ Y) w (retV v4 0) wE) := Lib.hid fun wE hE => ⟨by rw [HRT.out]; exact res_ok (vat_new2 hv4 HN.out hs3.out (by omega) hE (fun b e => by omega)), (HOC.out.trans ho4).trans_more (hE.mono (fun b e => .inr (by rw [HN.out]; omega)))⟩
        clear hv4 ho4
        have r0 : w4.cell? ⟨N + 1 + 1, 0, none⟩ = some (.int .i64 0) := (HBR.out).cell 0
        have rf0 : w4.frozen? ⟨N + 1 + 1, 0, none⟩ = false := (HBR.out).frozen 0
        have r1 : w4.cell? ⟨N + 1 + 1, 1, none⟩ = some (.int .i64 0) := (HBR.out).cell 1
        have rf1 : w4.frozen? ⟨N + 1 + 1, 1, none⟩ = false := (HBR.out).frozen 1
        have r2 : w4.cell? ⟨N + 1 + 1, 2, none⟩ = some (.int .i64 0) := (HBR.out).cell 2
        have rf2 : w4.frozen? ⟨N + 1 + 1, 2, none⟩ = false := (HBR.out).frozen 2
        have r3 : w4.cell? ⟨N + 1 + 1, 3, none⟩ = some (.string ⟨#[]⟩) := (HBR.out).cell 3
        have rf3 : w4.frozen? ⟨N + 1 + 1, 3, none⟩ = false := (HBR.out).frozen 3
        have r4 : w4.cell? ⟨N + 1 + 1, 4, none⟩ = some (.slice none 0 0) := (HBR.out).cell 4
        have rf4 : w4.frozen? ⟨N + 1 + 1, 4, none⟩ = false := (HBR.out).frozen 4
        have r5 : w4.cell? ⟨N + 1 + 1, 5, none⟩ = some (.slice none 0 0) := (HBR.out).cell 5
        have rf5 : w4.frozen? ⟨N + 1 + 1, 5, none⟩ = false := (HBR.out).frozen 5
        unfold retV at HP4
        go_wp2_with fail
        exact bodyPost_ret (v := .tuple #[.agg #[.int .i64 v4.k, .int .i64 v4.i, .int .i64 v4.s, .string v4.t, .slice v4.la v4.ln v4.lc, .slice v4.fa v4.fn v4.fc], .int .i64 0]) (by simp [results, Tryz.results39, go_sem, r0, r1, r2, r3, r4, r5]) rfl (HP4.out _ (by repeat (first | with_reducible exact Only.refl _ _ | with_reducible refine Only.drew ?_ | with_reducible refine Only.alloc ?_ _ | with_reducible refine Only.setCell ?_ (Or.inl ?_) _ | exact rfl | exact Or.inl rfl | exact Or.inr (Or.inl rfl) | exact Or.inr (Or.inr rfl) | exact Or.inr rfl)))

end Go.Proofs.YtdccckoelnnnoaaGreatDoor
