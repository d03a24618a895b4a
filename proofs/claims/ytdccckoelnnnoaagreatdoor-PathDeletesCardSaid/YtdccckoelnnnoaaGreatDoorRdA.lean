/- Path, the reference: with, and Set at one part that is there. -/
import Derived.Test.YtdccckoelnnnoaaGreatDoorDelC
import Derived.Test.YtdccckoelnnnoaaGreatDoorFiR
namespace Go.Proofs.YtdccckoelnnnoaaGreatDoor
open Go.RowKit
attribute [local go_sem ↓] Go.wp_at_zero Go.wp_at_succ

theorem own_empty (w : World) (t : TypeId) (k : Nat) : (w.alloc (.cells #[] t)).ownsRow w.heap.size t k (.slice (some ⟨w.heap.size, 0, none⟩) 0 0) 0 [] :=
  ⟨by simp, .inr ⟨w.heap.size, 0, #[], rfl, Nat.le_refl _, Blk.new w t #[], Nat.le_refl _, Nat.zero_le _, by simp, by simp⟩⟩

set_option maxRecDepth 100000 in
set_option maxHeartbeats 16000000 in
theorem with_any (v x : VC) (T X : VT) (q : Nat) (S : Nat → Prop) (n : Nat) (w : World) (h : VAt w S (n + 1) v T) (hx : VAt w S n x X) (hq : q < T.l.length) (hsz : v.ln ≤ 1599289640355) : Calls Tryz.prog 53 #[.agg #[.int .i64 v.k, .int .i64 v.i, .int .i64 v.s, .string v.t, .slice v.la v.ln v.lc, .slice v.fa v.fn v.fc], .int .i64 (q : Int), .agg #[.int .i64 x.k, .int .i64 x.i, .int .i64 x.s, .string x.t, .slice x.la x.ln x.lc, .slice x.fa x.fn x.fc]] w (RepPost S n (setLT T q X) w) := by
  have HX := Lib.hid hx
  obtain ⟨heq, ⟨V, hV, hA⟩, hF⟩ := h
  have HEQ := Lib.hid heq
  have HF := Lib.hid hF
  have HA := Lib.hid hA
  have HV := Lib.hid hV
  have hqn : q < v.ln := by rw [← hV.len, hA.1]; exact hq
  obtain ⟨i0, hi0, hz0, hz1, hz2⟩ := info_parts infoV
  clear hx hF heq hV hA
  obtain ⟨N, HN⟩ : ∃ N, Hid (w.heap.size = N) := ⟨_, Lib.hid rfl⟩
  obtain ⟨W, HW⟩ : ∃ W, Hid (W = (((w.alloc (.cells #[.int .i64 v.k, .int .i64 v.i, .int .i64 v.s, .string v.t, .slice v.la v.ln v.lc, .slice v.fa v.fn v.fc] 25)).alloc (.cells #[.int .i64 x.k, .int .i64 x.i, .int .i64 x.s, .string x.t, .slice x.la x.ln x.lc, .slice x.fa x.fn x.fc] 25)).alloc (.cells #[.int .i64 0, .int .i64 0, .int .i64 0, .string ⟨#[]⟩, .slice none 0 0, .slice none 0 0] 25))) := ⟨_, Lib.hid rfl⟩
  have HOA : Hid (Only Nobody w W) := Lib.hid (by rw [HW.out]; exact (((Only.refl _ _).alloc _).alloc _).alloc _)
  have HB0 : Hid (Blk W (N) 25 #[.int .i64 v.k, .int .i64 v.i, .int .i64 v.s, .string v.t, .slice v.la v.ln v.lc, .slice v.fa v.fn v.fc]) := Lib.hid (by
    have := (Blk.new w 25 #[.int .i64 v.k, .int .i64 v.i, .int .i64 v.s, .string v.t, .slice v.la v.ln v.lc, .slice v.fa v.fn v.fc])
    rw [HW.out, ← HN.out]
    simpa using ((this.alloc (.cells #[.int .i64 x.k, .int .i64 x.i, .int .i64 x.s, .string x.t, .slice x.la x.ln x.lc, .slice x.fa x.fn x.fc] 25)).alloc (.cells #[.int .i64 0, .int .i64 0, .int .i64 0, .string ⟨#[]⟩, .slice none 0 0, .slice none 0 0] 25)))
  have HB1 : Hid (Blk W (N + 1) 25 #[.int .i64 x.k, .int .i64 x.i, .int .i64 x.s, .string x.t, .slice x.la x.ln x.lc, .slice x.fa x.fn x.fc]) := Lib.hid (by
    have := (Blk.new (w.alloc (.cells #[.int .i64 v.k, .int .i64 v.i, .int .i64 v.s, .string v.t, .slice v.la v.ln v.lc, .slice v.fa v.fn v.fc] 25)) 25 #[.int .i64 x.k, .int .i64 x.i, .int .i64 x.s, .string x.t, .slice x.la x.ln x.lc, .slice x.fa x.fn x.fc])
    rw [HW.out, ← HN.out]
    simpa using (this.alloc (.cells #[.int .i64 0, .int .i64 0, .int .i64 0, .string ⟨#[]⟩, .slice none 0 0, .slice none 0 0] 25)))
  have HB2 : Hid (Blk W (N + 1 + 1) 25 #[.int .i64 0, .int .i64 0, .int .i64 0, .string ⟨#[]⟩, .slice none 0 0, .slice none 0 0]) := Lib.hid (by
    have := (Blk.new ((w.alloc (.cells #[.int .i64 v.k, .int .i64 v.i, .int .i64 v.s, .string v.t, .slice v.la v.ln v.lc, .slice v.fa v.fn v.fc] 25)).alloc (.cells #[.int .i64 x.k, .int .i64 x.i, .int .i64 x.s, .string x.t, .slice x.la x.ln x.lc, .slice x.fa x.fn x.fc] 25)) 25 #[.int .i64 0, .int .i64 0, .int .i64 0, .string ⟨#[]⟩, .slice none 0 0, .slice none 0 0])
    rw [HW.out, ← HN.out]
    simpa using this)
  have HWS : Hid (W.heap.size = N + 3) := Lib.hid (by rw [HW.out, ← HN.out]; simp)
  go_enter Tryz.func53, Tryz.ntmps53
  go_upto_region 1 with fail
  rw [← HW.out, HN.out]
  have HRW0 := Lib.hid (own_empty W 25 6)
  have HU := Lib.hid (one_vs' V)
  have HBB : Hid (W.heap.size ≤ (W.alloc (.cells #[] 25)).heap.size) := Lib.hid (by simp)
  have HBY : Hid (0 + v.ln ≤ maxLen ∧ (0 + v.ln) * 88 ≤ 140737488355328) := Lib.hid (by unfold maxLen; omega)
  have HRD : Hid (Reads (W.alloc (.cells #[] 25)) (W.alloc (.cells #[] 25)).heap.size 6 v.la v.ln (cells VC.vals V)) := Lib.hid (HV.out.same (HOA.out.alloc _)).rd
  have HE0 : Hid (Blk (W.alloc (.cells #[] 25)) N 25 #[.int .i64 v.k, .int .i64 v.i, .int .i64 v.s, .string v.t, .slice v.la v.ln v.lc, .slice v.fa v.fn v.fc]) := Lib.hid (HB0.out.alloc _)
  have e0 : (W.alloc (.cells #[] 25)).cell? ⟨N, 0, none⟩ = some (.int .i64 v.k) := (HE0.out).cell 0
  have ef0 : (W.alloc (.cells #[] 25)).frozen? ⟨N, 0, none⟩ = false := (HE0.out).frozen 0
  have e1 : (W.alloc (.cells #[] 25)).cell? ⟨N, 1, none⟩ = some (.int .i64 v.i) := (HE0.out).cell 1
  have ef1 : (W.alloc (.cells #[] 25)).frozen? ⟨N, 1, none⟩ = false := (HE0.out).frozen 1
  have e2 : (W.alloc (.cells #[] 25)).cell? ⟨N, 2, none⟩ = some (.int .i64 v.s) := (HE0.out).cell 2
  have ef2 : (W.alloc (.cells #[] 25)).frozen? ⟨N, 2, none⟩ = false := (HE0.out).frozen 2
  have e3 : (W.alloc (.cells #[] 25)).cell? ⟨N, 3, none⟩ = some (.string v.t) := (HE0.out).cell 3
  have ef3 : (W.alloc (.cells #[] 25)).frozen? ⟨N, 3, none⟩ = false := (HE0.out).frozen 3
  have e4 : (W.alloc (.cells #[] 25)).cell? ⟨N, 4, none⟩ = some (.slice v.la v.ln v.lc) := (HE0.out).cell 4
  have ef4 : (W.alloc (.cells #[] 25)).frozen? ⟨N, 4, none⟩ = false := (HE0.out).frozen 4
  have e5 : (W.alloc (.cells #[] 25)).cell? ⟨N, 5, none⟩ = some (.slice v.fa v.fn v.fc) := (HE0.out).cell 5
  have ef5 : (W.alloc (.cells #[] 25)).frozen? ⟨N, 5, none⟩ = false := (HE0.out).frozen 5

  go_wp2_with (at_builtin; refine wpList_append_any _ rfl (.tmp 7) (.tmp 9) _ rfl W.heap.size 25 i0 _ 6 88 Tryz.underlying22 hi0 hz0 hz1 hz2 rfl (by omega) (.slice (some ⟨W.heap.size, 0, none⟩) 0 0) 0 [] rfl HRW0.out _ v.la v.ln v.lc (cells VC.vals V) rfl HRD.out HU.out HBY.out.1 HBY.out.2 HBB.out ?_)

  intro v5 w5 hown5 hgr5 hat5
  obtain ⟨A5, c1, rfl⟩ := own_form hown5
  have HOW5 : Hid (Only Nobody W w5) := Lib.hid (((Only.refl _ _).alloc _).trans_more (Only.of_grown hgr5 (fun b e => .inr (by
    have e2 : W.heap.size = b := by
      injection e
    omega))))
  obtain ⟨g, cur, rfl, hgW, hgk, hcur, hcs, hnc⟩ := own_blk hown5 (by omega)
  have hgN : N + 3 ≤ g := by rw [← HWS.out]; exact hgW
  have HCUR := Lib.hid hcur
  have HGK : Hid (Blk w5 g 25 cur) := Lib.hid hgk
  have HC0 : Hid (Blk w5 N 25 #[.int .i64 v.k, .int .i64 v.i, .int .i64 v.s, .string v.t, .slice v.la v.ln v.lc, .slice v.fa v.fn v.fc]) := Lib.hid (HOW5.out.blk HB0.out (fun x => x))
  have HC1 : Hid (Blk w5 (N + 1) 25 #[.int .i64 x.k, .int .i64 x.i, .int .i64 x.s, .string x.t, .slice x.la x.ln x.lc, .slice x.fa x.fn x.fc]) := Lib.hid (HOW5.out.blk HB1.out (fun x => x))
  have HC2 : Hid (Blk w5 (N + 1 + 1) 25 #[.int .i64 0, .int .i64 0, .int .i64 0, .string ⟨#[]⟩, .slice none 0 0, .slice none 0 0]) := Lib.hid (HOW5.out.blk HB2.out (fun x => x))
  clear hown5 hgr5 hat5 hgW hgk hcur e0 ef0 e1 ef1 e2 ef2 e3 ef3 e4 ef4 e5 ef5
  have b0 : w5.cell? ⟨N, 0, none⟩ = some (.int .i64 v.k) := (HC0.out).cell 0
  have bf0 : w5.frozen? ⟨N, 0, none⟩ = false := (HC0.out).frozen 0
  have b1 : w5.cell? ⟨N, 1, none⟩ = some (.int .i64 v.i) := (HC0.out).cell 1
  have bf1 : w5.frozen? ⟨N, 1, none⟩ = false := (HC0.out).frozen 1
  have b2 : w5.cell? ⟨N, 2, none⟩ = some (.int .i64 v.s) := (HC0.out).cell 2
  have bf2 : w5.frozen? ⟨N, 2, none⟩ = false := (HC0.out).frozen 2
  have b3 : w5.cell? ⟨N, 3, none⟩ = some (.string v.t) := (HC0.out).cell 3
  have bf3 : w5.frozen? ⟨N, 3, none⟩ = false := (HC0.out).frozen 3
  have b4 : w5.cell? ⟨N, 4, none⟩ = some (.slice v.la v.ln v.lc) := (HC0.out).cell 4
  have bf4 : w5.frozen? ⟨N, 4, none⟩ = false := (HC0.out).frozen 4
  have b5 : w5.cell? ⟨N, 5, none⟩ = some (.slice v.fa v.fn v.fc) := (HC0.out).cell 5
  have bf5 : w5.frozen? ⟨N, 5, none⟩ = false := (HC0.out).frozen 5
  have r0 : w5.cell? ⟨N + 1 + 1, 0, none⟩ = some (.int .i64 0) := (HC2.out).cell 0
  have rf0 : w5.frozen? ⟨N + 1 + 1, 0, none⟩ = false := (HC2.out).frozen 0
  have r1 : w5.cell? ⟨N + 1 + 1, 1, none⟩ = some (.int .i64 0) := (HC2.out).cell 1
  have rf1 : w5.frozen? ⟨N + 1 + 1, 1, none⟩ = false := (HC2.out).frozen 1
  have r2 : w5.cell? ⟨N + 1 + 1, 2, none⟩ = some (.int .i64 0) := (HC2.out).cell 2
  have rf2 : w5.frozen? ⟨N + 1 + 1, 2, none⟩ = false := (HC2.out).frozen 2
  have r3 : w5.cell? ⟨N + 1 + 1, 3, none⟩ = some (.string ⟨#[]⟩) := (HC2.out).cell 3
  have rf3 : w5.frozen? ⟨N + 1 + 1, 3, none⟩ = false := (HC2.out).frozen 3
  have r4 : w5.cell? ⟨N + 1 + 1, 4, none⟩ = some (.slice none 0 0) := (HC2.out).cell 4
  have rf4 : w5.frozen? ⟨N + 1 + 1, 4, none⟩ = false := (HC2.out).frozen 4
  have r5 : w5.cell? ⟨N + 1 + 1, 5, none⟩ = some (.slice none 0 0) := (HC2.out).cell 5
  have rf5 : w5.frozen? ⟨N + 1 + 1, 5, none⟩ = false := (HC2.out).frozen 5
  have x0 : w5.cell? ⟨N + 1, 0, none⟩ = some (.int .i64 x.k) := (HC1.out).cell 0
  have x1 : w5.cell? ⟨N + 1, 1, none⟩ = some (.int .i64 x.i) := (HC1.out).cell 1
  have x2 : w5.cell? ⟨N + 1, 2, none⟩ = some (.int .i64 x.s) := (HC1.out).cell 2
  have x3 : w5.cell? ⟨N + 1, 3, none⟩ = some (.string x.t) := (HC1.out).cell 3
  have x4 : w5.cell? ⟨N + 1, 4, none⟩ = some (.slice x.la x.ln x.lc) := (HC1.out).cell 4
  have x5 : w5.cell? ⟨N + 1, 5, none⟩ = some (.slice x.fa x.fn x.fc) := (HC1.out).cell 5
  obtain ⟨u0, e0⟩ : ∃ u, w5.cell? ⟨g, q * 6, none⟩ = some u := own_cell6 HGK.out HCUR.out hqn HV.out.len (j := 0) (by omega)
  have ef0 : w5.frozen? ⟨g, q * 6, none⟩ = false := HGK.out.frozen _
  obtain ⟨u1, e1⟩ : ∃ u, w5.cell? ⟨g, q * 6 + 1, none⟩ = some u := own_cell6 HGK.out HCUR.out hqn HV.out.len (j := 1) (by omega)
  have ef1 : w5.frozen? ⟨g, q * 6 + 1, none⟩ = false := HGK.out.frozen _
  obtain ⟨u2, e2⟩ : ∃ u, w5.cell? ⟨g, q * 6 + 2, none⟩ = some u := own_cell6 HGK.out HCUR.out hqn HV.out.len (j := 2) (by omega)
  have ef2 : w5.frozen? ⟨g, q * 6 + 2, none⟩ = false := HGK.out.frozen _
  obtain ⟨u3, e3⟩ : ∃ u, w5.cell? ⟨g, q * 6 + 3, none⟩ = some u := own_cell6 HGK.out HCUR.out hqn HV.out.len (j := 3) (by omega)
  have ef3 : w5.frozen? ⟨g, q * 6 + 3, none⟩ = false := HGK.out.frozen _
  obtain ⟨u4, e4⟩ : ∃ u, w5.cell? ⟨g, q * 6 + 4, none⟩ = some u := own_cell6 HGK.out HCUR.out hqn HV.out.len (j := 4) (by omega)
  have ef4 : w5.frozen? ⟨g, q * 6 + 4, none⟩ = false := HGK.out.frozen _
  obtain ⟨u5, e5⟩ : ∃ u, w5.cell? ⟨g, q * 6 + 5, none⟩ = some u := own_cell6 HGK.out HCUR.out hqn HV.out.len (j := 5) (by omega)
  have ef5 : w5.frozen? ⟨g, q * 6 + 5, none⟩ = false := HGK.out.frozen _
  have hq0 : (0 : Int) ≤ (q : Int) := by omega
  have hqI : (q : Int) < (v.ln : Int) := by omega
  have n0 : N ≠ g := by omega
  have n1 : g ≠ N := by omega
  have hs2 := set6_blk (o := q * 6) (a := .int .i64 x.k) (b := .int .i64 x.i) (c := .int .i64 x.s) (d := .string x.t) (e := .slice x.la x.ln x.lc) (f := .slice x.fa x.fn x.fc) (HGK.out.far (p := ⟨N, 4, none⟩) (fun e => n0 e.symm) (.slice (some ⟨g, 0, none⟩) v.ln c1))
  have HPOST : Hid (∀ wE, Only (fun b => b = N + 1 + 1) (((((((w5.setCell ⟨N, 4, none⟩ (.slice (some ⟨g, 0, none⟩) v.ln c1)).setCell ⟨g, q * 6, none⟩ (.int .i64 x.k)).setCell ⟨g, q * 6 + 1, none⟩ (.int .i64 x.i)).setCell ⟨g, q * 6 + 2, none⟩ (.int .i64 x.s)).setCell ⟨g, q * 6 + 3, none⟩ (.string x.t)).setCell ⟨g, q * 6 + 4, none⟩ (.slice x.la x.ln x.lc)).setCell ⟨g, q * 6 + 5, none⟩ (.slice x.fa x.fn x.fc)) wE → RepPost S n (setLT T q X) w (.returned (.agg #[.int .i64 v.k, .int .i64 v.i, .int .i64 v.s, .string v.t, .slice (some ⟨g, 0, none⟩) v.ln c1, .slice v.fa v.fn v.fc])) wE) := Lib.hid fun wE hE =>
    repL_post HN.out (show N ≤ g by omega) HEQ.out HV.out.len HA.out HF.out HX.out hqn hnc HCUR.out hcs (hE.blk hs2 (by omega)) ((((HOA.out.trans HOW5.out).mono (fun _ x => x.elim)).trans (Only.mono (F := fun b => b = N ∨ b = g) (by repeat (first | with_reducible exact Only.refl _ _ | with_reducible refine Only.drew ?_ | with_reducible refine Only.alloc ?_ _ | with_reducible refine Only.setCell ?_ (Or.inl ?_) _ | exact rfl | exact Or.inl rfl | exact Or.inr (Or.inl rfl) | exact Or.inr (Or.inr rfl) | exact Or.inr rfl)) (fun b e => by omega))).trans (hE.mono (fun b e => by omega)))
  clear hs2 HU HBB HBY HRD HRW0 hi0 hz0 hz1 hz2
  go_wp2_with fail
  exact bodyPost_ret (v := .agg #[.int .i64 v.k, .int .i64 v.i, .int .i64 v.s, .string v.t, .slice (some ⟨g, 0, none⟩) v.ln c1, .slice v.fa v.fn v.fc]) (by simp [results, Tryz.results53, go_sem, r0, r1, r2, r3, r4, r5]) rfl (HPOST.out _ (by repeat (first | with_reducible exact Only.refl _ _ | with_reducible refine Only.drew ?_ | with_reducible refine Only.alloc ?_ _ | with_reducible refine Only.setCell ?_ (Or.inl ?_) _ | exact rfl | exact Or.inl rfl | exact Or.inr (Or.inl rfl) | exact Or.inr (Or.inr rfl) | exact Or.inr rfl)))
end Go.Proofs.YtdccckoelnnnoaaGreatDoor
