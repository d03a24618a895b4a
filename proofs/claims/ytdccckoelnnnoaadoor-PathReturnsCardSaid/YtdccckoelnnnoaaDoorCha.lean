/- path.change: the values along a path, each put in place of the old one. -/
import Derived.Test.YtdccckoelnnnoaaDoorSetA
namespace Go.Proofs.YtdccckoelnnnoaaDoor
open Go.RowKit
attribute [local go_sem ↓] Go.wp_at_zero Go.wp_at_succ

def ChPost (S : Nat → Prop) (L : List Pt) (T X : VT) (w : World) (e : Ending) (w' : World) : Prop := ∃ er T' n', ChR L T X er T' ∧ ResV (NewS S w) n' er T' e w' ∧ Only Nobody w w'
def rcdC : VC := ⟨9, 0, 0, ⟨#[]⟩, none, 0, 0, none, 0, 0⟩
theorem rec_at (w : World) (S : Nat → Prop) (n : Nat) : VAt w S (n + 1) rcdC rcdT := ⟨⟨rfl, rfl, rfl, rfl, Nat.le_refl _, Nat.le_refl _⟩, ⟨[], RowA.nil_, All2.nil_⟩, ⟨[], RowA.nil_, All2.nil_⟩⟩
theorem vat_pos {w : World} {S : Nat → Prop} {n : Nat} {v : VC} {T : VT} (h : VAt w S n v T) : ∃ k, n = k + 1 := by
  cases n with
  | zero => exact h.elim
  | succ k => exact ⟨k, rfl⟩
theorem Pts.tail_ {w : World} {ad : Addr} {m : Nat} {p : Pt} {l : List Pt} (h : Pts w (some ad) m (p :: l)) : Pts w (some (ad.add 3)) (m - 1) l := by
  have hm := h.len
  rw [List.length_cons] at hm
  refine ⟨⟨by rw [ptVals_length]; congr 1; omega, fun h0 => ?_⟩, by omega⟩
  obtain ⟨ad', e, hlt, hc⟩ := h.rd.2 (by omega)
  injection e with e
  subst e
  refine ⟨_, rfl, by unfold Addr.add; split <;> exact hlt, fun j u hu => ?_⟩
  rw [add_of_add]
  refine hc (3 + j) u ?_
  have e2 : ptVals (p :: l) = p.vals ++ ptVals l := by simp [ptVals]
  rw [e2, List.getElem?_append_right (by simp [Pt.vals])]
  rw [← hu]
  congr 1
  simp [Pt.vals]
theorem ch_ins {p : Pt} {l : List Pt} {T X T' : VT} {er : Int} {q : Nat} (ha : appT p T = true) (hl : l ≠ []) (h0 : leadL p T = []) (h1 : p.kind = 1) (h64 : T.f.length < 64) (hq : q ≤ T.f.length) (h : ChR (p :: l) (insT T q p.name rcdT) X er T') : ChR (p :: l) T X er T' := by
  obtain ⟨g1, g2⟩ := ins_facts (R := rcdT) h1 ha h0 hq
  refine .inr ⟨ha, .inr ⟨hl, .inl ⟨h0, .inr (.inr ⟨h1, h64, q, hq, ?_⟩)⟩⟩⟩
  rcases h with ⟨hc, _⟩ | ⟨_, ⟨hc, _⟩ | ⟨_, ⟨hc, _⟩ | ⟨U, rest, hU, Y, hY, he⟩⟩⟩
  · rw [g2] at hc; cases hc
  · exact absurd hc hl
  · rw [g1] at hc; cases hc
  · rw [g1] at hU
    cases hU
    exact ⟨Y, hY, he⟩
theorem res_new3 {S F : Nat → Prop} {w w1 w4 wE : World} {N M n : Nat} {er : Int} {v : VC} {T : VT} (h : er = 0 → VAt w4 (NewS (fun b => S b ∧ b < N) w1) n v T) (hz : er ≠ 0 → v = zeroC) (hN : w.heap.size = N) (hM : M ≤ w1.heap.size) (hNM : N ≤ M) (hE : Only F w4 wE) (hF : ∀ b, F b → N ≤ b ∧ b < M) : ResV (NewS S w) n er T (retV v er) wE := res_new h hz hN hM hNM hE hF
theorem vat_new4 {S F : Nat → Prop} {w w5 w6 wE : World} {N M n : Nat} {v : VC} {T : VT} (h : VAt w6 (NewS (fun b => (S b ∧ b < N) ∨ M ≤ b) w5) n v T) (hN : w.heap.size = N) (hM : M ≤ w5.heap.size) (hNM : N ≤ M) (hE : Only F w6 wE) (hF : ∀ b, F b → N ≤ b ∧ b < M) : VAt wE (NewS S w) n v T :=
  (h.keep hE (fun b hb hf => by
    obtain ⟨h1, h2⟩ := hF b hf
    rcases hb with (hb | hb) | hb
    · have := hb.2; omega
    · omega
    · omega)).mono (fun b _ hb => by
    rcases hb with (hb | hb) | hb
    · exact .inl hb.1
    · exact .inr (by rw [hN]; exact Nat.le_trans hNM hb)
    · exact .inr (by rw [hN]; exact Nat.le_trans hNM (Nat.le_trans hM hb)))
theorem res_new4 {S F : Nat → Prop} {w w5 w6 wE : World} {N M n : Nat} {er : Int} {v : VC} {T : VT} (h : er = 0 → VAt w6 (NewS (fun b => (S b ∧ b < N) ∨ M ≤ b) w5) n v T) (hz : er ≠ 0 → v = zeroC) (hN : w.heap.size = N) (hM : M ≤ w5.heap.size) (hNM : N ≤ M) (hE : Only F w6 wE) (hF : ∀ b, F b → N ≤ b ∧ b < M) : ResV (NewS S w) n er T (retV v er) wE :=
  ⟨v, rfl, hz, fun h0 => vat_new4 (h h0) hN hM hNM hE hF⟩
theorem vat_up4 {S : Nat → Prop} {w3 w4 : World} {N M n : Nat} {v : VC} {T : VT} (h : VAt w4 (NewS (fun b => S b ∧ b < N) w3) n v T) (hM : M ≤ w3.heap.size) : VAt w4 (fun b => (S b ∧ b < N) ∨ M ≤ b) n v T := h.mono fun b _ hb => by
  rcases hb with hb | hb
  · exact .inl hb
  · exact .inr (Nat.le_trans hM hb)
theorem vat_in4 {S : Nat → Prop} {w : World} {N M n : Nat} {v : VC} {T : VT} (h : VAt w (fun b => S b ∧ b < N) n v T) : VAt w (fun b => (S b ∧ b < N) ∨ M ≤ b) n v T := h.mono fun _ _ hb => .inl hb
theorem add_err {T X T' : VT} {p : Pt} {l : List Pt} {er : Int} (ha : appT p T = true) (hl : l ≠ []) (h0 : leadL p T = []) (h : AddR T p rcdT er T') (he : er ≠ 0) : ChR (p :: l) T X er T := by
  refine .inr ⟨ha, .inr ⟨hl, .inl ⟨h0, ?_⟩⟩⟩
  rcases h with ⟨h1, h2⟩ | ⟨h1, h2, h3⟩ | ⟨_, _, h3, _⟩
  · exact .inl ⟨h1, h2⟩
  · exact .inr (.inl ⟨h1, h2, h3⟩)
  · exact absurd h3 he
theorem add_ok {T T' : VT} {p : Pt} (h : AddR T p rcdT 0 T') : p.kind = 1 ∧ T.f.length < 64 ∧ ∃ q, q ≤ T.f.length ∧ T' = insT T q p.name rcdT := by
  rcases h with ⟨_, h2⟩ | ⟨_, _, h3⟩ | ⟨h1, h2, _, h3⟩
  · omega
  · omega
  · exact ⟨h1, h2, h3⟩

def ChAt (B : Nat) (L : List Pt) (T : VT) : Prop := ∀ (v x : VC) (X : VT) (S : Nat → Prop) (n : Nat) (A : Option Addr) (m c : Nat) (ba bx bm : Nat) (w : World), T.size ≤ B → m ≤ 1000 → m ≤ c → VAt w S n v T → VAt w S n x X → Pts w A m L → Blk w ba 66 #[.func (.func 30) #[] #[]] → Blk w bx 25 #[.int .i64 x.k, .int .i64 x.i, .int .i64 x.s, .string x.t, .slice x.la x.ln x.lc, .slice x.fa x.fn x.fc] → Blk w bm 25 #[.int .i64 9, .int .i64 0, .int .i64 0, .string ⟨#[]⟩, .slice none 0 0, .slice none 0 0] →
  Calls Tryd.prog 33 #[.agg #[.int .i64 v.k, .int .i64 v.i, .int .i64 v.s, .string v.t, .slice v.la v.ln v.lc, .slice v.fa v.fn v.fc], .slice A m c, .func (.func 31) #[] #[.pointer (some ⟨bm, 0, none⟩)], .func (.func 34) #[] #[.pointer (some ⟨ba, 0, none⟩), .pointer (some ⟨bx, 0, none⟩)]] w (ChPost S L T X w)
set_option maxRecDepth 100000 in
set_option maxHeartbeats 32000000 in
theorem change_walk (B : Nat) (hB1 : B ≤ 140737488351232) (k i : Int) (nm : ByteArray) (l : List Pt) (hval : validB ⟨k, i, nm⟩ = true) (h3 : (k == 3) = false) (ihl : l ≠ [] → ∀ U, ChAt 140737488351232 l U) (T : VT) (hB : leadL ⟨k, i, nm⟩ T = [] → B ≤ 140737488351232) (hrec : leadL ⟨k, i, nm⟩ T = [] → ∀ T1, leadL ⟨k, i, nm⟩ T1 = [rcdT] → ChAt 140737488351232 (⟨k, i, nm⟩ :: l) T1) : ChAt B (⟨k, i, nm⟩ :: l) T := by
  intro v x X S n A m c ba bx bm w hsz hm hmc h hx hp hba hb hbm
  have HVAL := Lib.hid hval
  have H3 := Lib.hid h3
  have HIH := Lib.hid ihl
  have HREC := Lib.hid hrec
  have HV := Lib.hid h
  have HX := Lib.hid hx
  have HP := Lib.hid hp
  have HAB := Lib.hid (app_eq h ⟨k, i, nm⟩)
  have hml : m = l.length + 1 := by rw [← hp.len]; rfl
  obtain ⟨ad, rfl⟩ := hp.some_ (by omega)
  have hT : T.size ≤ 140737488351232 := by omega
  have HML := Lib.hid hml
  have HBB := Lib.hid hB
  have HSZ := Lib.hid hsz
  have HPA : Hid (∀ w', Only Nobody w w' → w'.cell? ad = some (.int .i64 k) ∧ w'.cell? ⟨ad.block, ad.off + 1, none⟩ = some (.int .i64 i) ∧ w'.cell? ⟨ad.block, ad.off + 2, none⟩ = some (.string nm)) := Lib.hid fun w' ho => by
    obtain ⟨z0, z1, z2⟩ := (HP.out.same ho).at_ (i := 0) (o := ⟨k, i, nm⟩) rfl
    rw [Nat.zero_mul, addr_zero] at z0 z1 z2
    exact ⟨z0, z1, z2⟩
  have HBA : Hid (∀ w', Only Nobody w w' → Blk w' ba 66 #[.func (.func 30) #[] #[]]) := Lib.hid fun w' ho => ho.blk hba (fun x => x)
  have HBX : Hid (∀ w', Only Nobody w w' → Blk w' bx 25 #[.int .i64 x.k, .int .i64 x.i, .int .i64 x.s, .string x.t, .slice x.la x.ln x.lc, .slice x.fa x.fn x.fc]) := Lib.hid fun w' ho => ho.blk hb (fun x => x)
  have HBM : Hid (∀ w', Only Nobody w w' → Blk w' bm 25 #[.int .i64 9, .int .i64 0, .int .i64 0, .string ⟨#[]⟩, .slice none 0 0, .slice none 0 0]) := Lib.hid fun w' ho => ho.blk hbm (fun x => x)
  clear h hx hp hba hb hbm hval h3 ihl hrec hsz hml hB
  obtain ⟨N, HN⟩ : ∃ N, Hid (w.heap.size = N) := ⟨_, Lib.hid rfl⟩
  obtain ⟨W, HW⟩ : ∃ W, Hid (W = ((w.alloc (.cells #[.int .i64 v.k, .int .i64 v.i, .int .i64 v.s, .string v.t, .slice v.la v.ln v.lc, .slice v.fa v.fn v.fc] 25)).alloc (.cells #[.int .i64 0, .int .i64 0, .int .i64 0, .string ⟨#[]⟩, .slice none 0 0, .slice none 0 0] 25))) := ⟨_, Lib.hid rfl⟩
  have HOA : Hid (Only Nobody w W) := Lib.hid (by rw [HW.out]; exact ((Only.refl _ _).alloc _).alloc _)
  have HB0 : Hid (Blk W (N) 25 #[.int .i64 v.k, .int .i64 v.i, .int .i64 v.s, .string v.t, .slice v.la v.ln v.lc, .slice v.fa v.fn v.fc]) := Lib.hid (by
    have := (Blk.new w 25 #[.int .i64 v.k, .int .i64 v.i, .int .i64 v.s, .string v.t, .slice v.la v.ln v.lc, .slice v.fa v.fn v.fc])
    rw [HW.out, ← HN.out]
    simpa using (this.alloc (.cells #[.int .i64 0, .int .i64 0, .int .i64 0, .string ⟨#[]⟩, .slice none 0 0, .slice none 0 0] 25)))
  have HB1 : Hid (Blk W (N + 1) 25 #[.int .i64 0, .int .i64 0, .int .i64 0, .string ⟨#[]⟩, .slice none 0 0, .slice none 0 0]) := Lib.hid (by
    have := (Blk.new (w.alloc (.cells #[.int .i64 v.k, .int .i64 v.i, .int .i64 v.s, .string v.t, .slice v.la v.ln v.lc, .slice v.fa v.fn v.fc] 25)) 25 #[.int .i64 0, .int .i64 0, .int .i64 0, .string ⟨#[]⟩, .slice none 0 0, .slice none 0 0])
    rw [HW.out, ← HN.out]
    simpa using this)
  have HWS : Hid (W.heap.size = N + 2) := Lib.hid (by rw [HW.out, ← HN.out]; simp)
  go_enter Tryd.func33, Tryd.ntmps33
  go_upto_region 1 with fail
  rw [← HW.out, HN.out]
  obtain ⟨q0, q1, q2⟩ := HPA.out W HOA.out
  have hm0 : (0 : Int) < (m : Int) := by have := HML.out; omega
  go_upto_region 2 with fail
  obtain ⟨W2, HW2⟩ : ∃ W2, Hid (W2 = W.alloc (.cells #[.int .i64 k, .int .i64 i, .string nm] 61)) := ⟨_, Lib.hid rfl⟩
  rw [← HW2.out, HWS.out]
  have HO2 : Hid (Only Nobody w W2) := Lib.hid (by rw [HW2.out]; exact HOA.out.alloc _)
  have HC0 : Hid (∀ w', Only Nobody W2 w' → Blk w' N 25 #[.int .i64 v.k, .int .i64 v.i, .int .i64 v.s, .string v.t, .slice v.la v.ln v.lc, .slice v.fa v.fn v.fc]) := Lib.hid fun w' ho => ho.blk (by rw [HW2.out]; exact HB0.out.alloc _) (fun x => x)
  have HC1 : Hid (∀ w', Only Nobody W2 w' → Blk w' (N + 1) 25 #[.int .i64 0, .int .i64 0, .int .i64 0, .string ⟨#[]⟩, .slice none 0 0, .slice none 0 0]) := Lib.hid fun w' ho => ho.blk (by rw [HW2.out]; exact HB1.out.alloc _) (fun x => x)
  have HC2 : Hid (∀ w', Only Nobody W2 w' → Blk w' (N + 2) 61 #[.int .i64 k, .int .i64 i, .string nm]) := Lib.hid fun w' ho => ho.blk (by rw [HW2.out, ← HWS.out]; exact Blk.new _ _ _) (fun x => x)
  have HS2 : Hid (W2.heap.size = N + 3) := Lib.hid (by rw [HW2.out]; simp [HWS.out])
  have HR2 := Lib.hid (Only.refl Nobody W2)
  clear q0 q1 q2 HB0 HB1
  have b0 : W2.cell? ⟨N, 0, none⟩ = some (.int .i64 v.k) := ((HC0.out W2 HR2.out)).cell 0
  have b1 : W2.cell? ⟨N, 1, none⟩ = some (.int .i64 v.i) := ((HC0.out W2 HR2.out)).cell 1
  have b2 : W2.cell? ⟨N, 2, none⟩ = some (.int .i64 v.s) := ((HC0.out W2 HR2.out)).cell 2
  have b3 : W2.cell? ⟨N, 3, none⟩ = some (.string v.t) := ((HC0.out W2 HR2.out)).cell 3
  have b4 : W2.cell? ⟨N, 4, none⟩ = some (.slice v.la v.ln v.lc) := ((HC0.out W2 HR2.out)).cell 4
  have b5 : W2.cell? ⟨N, 5, none⟩ = some (.slice v.fa v.fn v.fc) := ((HC0.out W2 HR2.out)).cell 5
  have p0 : W2.cell? ⟨N + 2, 0, none⟩ = some (.int .i64 k) := ((HC2.out W2 HR2.out)).cell 0
  have p1 : W2.cell? ⟨N + 2, 1, none⟩ = some (.int .i64 i) := ((HC2.out W2 HR2.out)).cell 1
  have p2 : W2.cell? ⟨N + 2, 2, none⟩ = some (.string nm) := ((HC2.out W2 HR2.out)).cell 2
  go_wp2_with fail
  refine (applies_any k i nm v W2).mono ?_
  rintro e w1 ⟨rfl, ho1⟩
  rw [HAB.out]
  have H21 := Lib.hid ho1
  have HO1 := Lib.hid (HO2.out.trans ho1)
  clear ho1 b0 b1 b2 b3 b4 b5 p0 p1 p2
  have b0 : w1.cell? ⟨N, 0, none⟩ = some (.int .i64 v.k) := ((HC0.out w1 H21.out)).cell 0
  have b1 : w1.cell? ⟨N, 1, none⟩ = some (.int .i64 v.i) := ((HC0.out w1 H21.out)).cell 1
  have b2 : w1.cell? ⟨N, 2, none⟩ = some (.int .i64 v.s) := ((HC0.out w1 H21.out)).cell 2
  have b3 : w1.cell? ⟨N, 3, none⟩ = some (.string v.t) := ((HC0.out w1 H21.out)).cell 3
  have b4 : w1.cell? ⟨N, 4, none⟩ = some (.slice v.la v.ln v.lc) := ((HC0.out w1 H21.out)).cell 4
  have b5 : w1.cell? ⟨N, 5, none⟩ = some (.slice v.fa v.fn v.fc) := ((HC0.out w1 H21.out)).cell 5
  have p0 : w1.cell? ⟨N + 2, 0, none⟩ = some (.int .i64 k) := ((HC2.out w1 H21.out)).cell 0
  have p1 : w1.cell? ⟨N + 2, 1, none⟩ = some (.int .i64 i) := ((HC2.out w1 H21.out)).cell 1
  have p2 : w1.cell? ⟨N + 2, 2, none⟩ = some (.string nm) := ((HC2.out w1 H21.out)).cell 2
  have r0 : w1.cell? ⟨N + 1, 0, none⟩ = some (.int .i64 0) := ((HC1.out w1 H21.out)).cell 0
  have rf0 : w1.frozen? ⟨N + 1, 0, none⟩ = false := ((HC1.out w1 H21.out)).frozen 0
  have r1 : w1.cell? ⟨N + 1, 1, none⟩ = some (.int .i64 0) := ((HC1.out w1 H21.out)).cell 1
  have rf1 : w1.frozen? ⟨N + 1, 1, none⟩ = false := ((HC1.out w1 H21.out)).frozen 1
  have r2 : w1.cell? ⟨N + 1, 2, none⟩ = some (.int .i64 0) := ((HC1.out w1 H21.out)).cell 2
  have rf2 : w1.frozen? ⟨N + 1, 2, none⟩ = false := ((HC1.out w1 H21.out)).frozen 2
  have r3 : w1.cell? ⟨N + 1, 3, none⟩ = some (.string ⟨#[]⟩) := ((HC1.out w1 H21.out)).cell 3
  have rf3 : w1.frozen? ⟨N + 1, 3, none⟩ = false := ((HC1.out w1 H21.out)).frozen 3
  have r4 : w1.cell? ⟨N + 1, 4, none⟩ = some (.slice none 0 0) := ((HC1.out w1 H21.out)).cell 4
  have rf4 : w1.frozen? ⟨N + 1, 4, none⟩ = false := ((HC1.out w1 H21.out)).frozen 4
  have r5 : w1.cell? ⟨N + 1, 5, none⟩ = some (.slice none 0 0) := ((HC1.out w1 H21.out)).cell 5
  have rf5 : w1.frozen? ⟨N + 1, 5, none⟩ = false := ((HC1.out w1 H21.out)).frozen 5
  cases hap : appT ⟨k, i, nm⟩ T with
  | false =>
    have HPOST : Hid (∀ wE, Only (fun b => b = N + 1) w1 wE → ChPost S (⟨k, i, nm⟩ :: l) T X w (retV zeroC 22) wE) := Lib.hid fun wE hE => ⟨22, T, 0, .inl ⟨hap, rfl⟩, res_err (by omega), HO1.out.trans_more (hE.mono (fun b e => .inr (by rw [HN.out]; omega)))⟩
    clear hap
    go_wp2_with fail
    exact bodyPost_ret (v := .tuple #[.agg #[.int .i64 0, .int .i64 0, .int .i64 0, .string ⟨#[]⟩, .slice none 0 0, .slice none 0 0], .int .i64 22]) (by simp [results, Tryd.results33, go_sem, r0, r1, r2, r3, r4, r5]) rfl (HPOST.out _ (by repeat (first | with_reducible exact Only.refl _ _ | with_reducible refine Only.drew ?_ | with_reducible refine Only.alloc ?_ _ | with_reducible refine Only.setCell ?_ (Or.inl ?_) _ | exact rfl | exact Or.inl rfl | exact Or.inr (Or.inl rfl) | exact Or.inr (Or.inr rfl) | exact Or.inr rfl)))
  | true =>
    have HAP := Lib.hid hap
    clear hap
    by_cases hl : l = []
    · subst hl
      have hm1 : m = 1 := by rw [HML.out]; rfl
      subst hm1
      clear r0 rf0 r1 rf1 r2 rf2 r3 rf3 r4 rf4 r5 rf5
      go_wp2_with fail
      refine (last_any v x T X k i nm (fun b => S b ∧ b < N) ba bx n w1 HVAL.out H3.out HAP.out hT ((vat_in HV.out HN.out HO1.out).up) (vat_in HX.out HN.out HO1.out) (HBA.out w1 HO1.out) (HBX.out w1 HO1.out)).mono ?_
      rintro e w4 ⟨er, T4, hadd, ⟨v5, rfl, hz5, hv5⟩, ho4⟩
      have H24 := Lib.hid (H21.out.trans ho4)
      have HPOST : Hid (∀ wE, Only (fun b => b = N + 1) w4 wE → ChPost S [⟨k, i, nm⟩] T X w (retV v5 er) wE) := Lib.hid fun wE hE => ⟨er, T4, n + 1, .inr ⟨HAP.out, .inl ⟨rfl, hadd⟩⟩, res_new hv5 hz5 HN.out (show N + 3 ≤ w1.heap.size by rw [← HS2.out]; exact H21.out.size) (by omega) hE (fun b e => by omega), (HO1.out.trans ho4).trans_more (hE.mono (fun b e => .inr (by rw [HN.out]; omega)))⟩
      clear hadd hz5 hv5 ho4
      have r0 : w4.cell? ⟨N + 1, 0, none⟩ = some (.int .i64 0) := ((HC1.out w4 H24.out)).cell 0
      have rf0 : w4.frozen? ⟨N + 1, 0, none⟩ = false := ((HC1.out w4 H24.out)).frozen 0
      have r1 : w4.cell? ⟨N + 1, 1, none⟩ = some (.int .i64 0) := ((HC1.out w4 H24.out)).cell 1
      have rf1 : w4.frozen? ⟨N + 1, 1, none⟩ = false := ((HC1.out w4 H24.out)).frozen 1
      have r2 : w4.cell? ⟨N + 1, 2, none⟩ = some (.int .i64 0) := ((HC1.out w4 H24.out)).cell 2
      have rf2 : w4.frozen? ⟨N + 1, 2, none⟩ = false := ((HC1.out w4 H24.out)).frozen 2
      have r3 : w4.cell? ⟨N + 1, 3, none⟩ = some (.string ⟨#[]⟩) := ((HC1.out w4 H24.out)).cell 3
      have rf3 : w4.frozen? ⟨N + 1, 3, none⟩ = false := ((HC1.out w4 H24.out)).frozen 3
      have r4 : w4.cell? ⟨N + 1, 4, none⟩ = some (.slice none 0 0) := ((HC1.out w4 H24.out)).cell 4
      have rf4 : w4.frozen? ⟨N + 1, 4, none⟩ = false := ((HC1.out w4 H24.out)).frozen 4
      have r5 : w4.cell? ⟨N + 1, 5, none⟩ = some (.slice none 0 0) := ((HC1.out w4 H24.out)).cell 5
      have rf5 : w4.frozen? ⟨N + 1, 5, none⟩ = false := ((HC1.out w4 H24.out)).frozen 5
      unfold retV at HPOST ⊢
      go_wp2_with fail
      exact bodyPost_ret (v := .tuple #[.agg #[.int .i64 v5.k, .int .i64 v5.i, .int .i64 v5.s, .string v5.t, .slice v5.la v5.ln v5.lc, .slice v5.fa v5.fn v5.fc], .int .i64 er]) (by simp [results, Tryd.results33, go_sem, r0, r1, r2, r3, r4, r5]) rfl (HPOST.out _ (by repeat (first | with_reducible exact Only.refl _ _ | with_reducible refine Only.drew ?_ | with_reducible refine Only.alloc ?_ _ | with_reducible refine Only.setCell ?_ (Or.inl ?_) _ | exact rfl | exact Or.inl rfl | exact Or.inr (Or.inl rfl) | exact Or.inr (Or.inr rfl) | exact Or.inr rfl)))
    · have hlp : 0 < l.length := List.length_pos_iff.2 hl
      have hml := HML.out
      have hm1 : ¬ (m : Int) = 1 := by omega
      have hmB : ((m : Int) == 1) = false := by simpa using hm1
      have hmN : (m == 1) = false := by simp; omega
      clear hml
      have HLN := Lib.hid hl
      clear hl
      go_wp2_with fail
      refine (lead_any k i nm v T (fun b => S b ∧ b < N) n HVAL.out hT w1 (vat_in HV.out HN.out HO1.out)).mono ?_
      rintro e w3 ⟨A3, m3, c3, V3, rfl, hr3, ha3, ho3⟩
      have hm3 : m3 = (leadL ⟨k, i, nm⟩ T).length := by rw [← hr3.len, ha3.1]
      have H23 := Lib.hid (H21.out.trans ho3)
      have HO3 := Lib.hid (HO1.out.trans ho3)
      have HR3 := Lib.hid hr3
      have HA3 := Lib.hid ha3
      clear hr3 ha3 ho3 b0 r0 rf0 b1 r1 rf1 b2 r2 rf2 b3 r3 rf3 b4 r4 rf4 b5 r5 rf5 p0 p1 p2
      cases hL : leadL ⟨k, i, nm⟩ T with
      | nil =>
        have hm0' : m3 = 0 := by rw [hm3, hL]; rfl
        subst hm0'
        have HL0 := Lib.hid hL
        clear hL hm3
        have b0 : w3.cell? ⟨N, 0, none⟩ = some (.int .i64 v.k) := ((HC0.out w3 H23.out)).cell 0
        have b1 : w3.cell? ⟨N, 1, none⟩ = some (.int .i64 v.i) := ((HC0.out w3 H23.out)).cell 1
        have b2 : w3.cell? ⟨N, 2, none⟩ = some (.int .i64 v.s) := ((HC0.out w3 H23.out)).cell 2
        have b3 : w3.cell? ⟨N, 3, none⟩ = some (.string v.t) := ((HC0.out w3 H23.out)).cell 3
        have b4 : w3.cell? ⟨N, 4, none⟩ = some (.slice v.la v.ln v.lc) := ((HC0.out w3 H23.out)).cell 4
        have b5 : w3.cell? ⟨N, 5, none⟩ = some (.slice v.fa v.fn v.fc) := ((HC0.out w3 H23.out)).cell 5
        have p0 : w3.cell? ⟨N + 2, 0, none⟩ = some (.int .i64 k) := ((HC2.out w3 H23.out)).cell 0
        have p1 : w3.cell? ⟨N + 2, 1, none⟩ = some (.int .i64 i) := ((HC2.out w3 H23.out)).cell 1
        have p2 : w3.cell? ⟨N + 2, 2, none⟩ = some (.string nm) := ((HC2.out w3 H23.out)).cell 2
        obtain ⟨n0, hn0⟩ := vat_pos HV.out
        go_wp2_with fail
        refine (add_any v rcdC T rcdT k i nm (fun b => S b ∧ b < N) bm n w3 ((vat_in HV.out HN.out HO3.out).up) (by rw [hn0]; exact rec_at _ _ _) (HBM.out w3 HO3.out)).mono ?_
        rintro e w4 ⟨er, T4, hadd, ⟨v5, rfl, hz5, hv5⟩, ho4⟩
        have H24 := Lib.hid (H23.out.trans ho4)
        have HO4 := Lib.hid (HO3.out.trans ho4)
        have HADD := Lib.hid hadd
        have HV5 := Lib.hid hv5
        clear hadd hz5 hv5 b0 b1 b2 b3 b4 b5 p0 p1 p2 hn0
        have r0 : w4.cell? ⟨N + 1, 0, none⟩ = some (.int .i64 0) := ((HC1.out w4 H24.out)).cell 0
        have rf0 : w4.frozen? ⟨N + 1, 0, none⟩ = false := ((HC1.out w4 H24.out)).frozen 0
        have r1 : w4.cell? ⟨N + 1, 1, none⟩ = some (.int .i64 0) := ((HC1.out w4 H24.out)).cell 1
        have rf1 : w4.frozen? ⟨N + 1, 1, none⟩ = false := ((HC1.out w4 H24.out)).frozen 1
        have r2 : w4.cell? ⟨N + 1, 2, none⟩ = some (.int .i64 0) := ((HC1.out w4 H24.out)).cell 2
        have rf2 : w4.frozen? ⟨N + 1, 2, none⟩ = false := ((HC1.out w4 H24.out)).frozen 2
        have r3 : w4.cell? ⟨N + 1, 3, none⟩ = some (.string ⟨#[]⟩) := ((HC1.out w4 H24.out)).cell 3
        have rf3 : w4.frozen? ⟨N + 1, 3, none⟩ = false := ((HC1.out w4 H24.out)).frozen 3
        have r4 : w4.cell? ⟨N + 1, 4, none⟩ = some (.slice none 0 0) := ((HC1.out w4 H24.out)).cell 4
        have rf4 : w4.frozen? ⟨N + 1, 4, none⟩ = false := ((HC1.out w4 H24.out)).frozen 4
        have r5 : w4.cell? ⟨N + 1, 5, none⟩ = some (.slice none 0 0) := ((HC1.out w4 H24.out)).cell 5
        have rf5 : w4.frozen? ⟨N + 1, 5, none⟩ = false := ((HC1.out w4 H24.out)).frozen 5
        unfold retV
        by_cases her : er = 0
        · subst her
          obtain ⟨hk1, h64, q, hq, hT4⟩ := add_ok HADD.out
          obtain ⟨hg1, hg2⟩ := ins_facts (R := rcdT) hk1 HAP.out HL0.out hq
          have HW5 : Hid (Only Nobody w4 (w4.alloc (.cells #[.int .i64 v5.k, .int .i64 v5.i, .int .i64 v5.s, .string v5.t, .slice v5.la v5.ln v5.lc, .slice v5.fa v5.fn v5.fc] 25))) := Lib.hid ((Only.refl _ _).alloc _)
          have hs3 : N + 3 ≤ w3.heap.size := by rw [← HS2.out]; exact H23.out.size
          have HS5 : Hid (N + 3 ≤ (w4.alloc (.cells #[.int .i64 v5.k, .int .i64 v5.i, .int .i64 v5.s, .string v5.t, .slice v5.la v5.ln v5.lc, .slice v5.fa v5.fn v5.fc] 25)).heap.size) := Lib.hid (Nat.le_trans hs3 (Nat.le_trans ho4.size HW5.out.size))
          have HCALL : Hid (Calls Tryd.prog 33 #[.agg #[.int .i64 v5.k, .int .i64 v5.i, .int .i64 v5.s, .string v5.t, .slice v5.la v5.ln v5.lc, .slice v5.fa v5.fn v5.fc], .slice (some ad) m c, .func (.func 31) #[] #[.pointer (some ⟨bm, 0, none⟩)], .func (.func 34) #[] #[.pointer (some ⟨ba, 0, none⟩), .pointer (some ⟨bx, 0, none⟩)]] (w4.alloc (.cells #[.int .i64 v5.k, .int .i64 v5.i, .int .i64 v5.s, .string v5.t, .slice v5.la v5.ln v5.lc, .slice v5.fa v5.fn v5.fc] 25)) (ChPost (fun b => (S b ∧ b < N) ∨ N + 3 ≤ b) (⟨k, i, nm⟩ :: l) T4 X (w4.alloc (.cells #[.int .i64 v5.k, .int .i64 v5.i, .int .i64 v5.s, .string v5.t, .slice v5.la v5.ln v5.lc, .slice v5.fa v5.fn v5.fc] 25)))) := Lib.hid (by
            refine HREC.out HL0.out T4 (by rw [hT4]; exact hg1) v5 x X _ (n + 1) (some ad) m c ba bx bm _ ?_ hm hmc ((vat_up4 (HV5.out rfl) hs3).same HW5.out) ((vat_in4 (vat_in HX.out HN.out (HO4.out.trans HW5.out))).up) (HP.out.same (HO4.out.trans HW5.out)) (HBA.out _ (HO4.out.trans HW5.out)) (HBX.out _ (HO4.out.trans HW5.out)) (HBM.out _ (HO4.out.trans HW5.out))
            rw [hT4]
            have h9 := ins_size h64 q nm rcdT
            rw [rec_size] at h9
            show (insT T q nm rcdT).size ≤ _
            have := HSZ.out
            have := HBB.out HL0.out
            omega)
          have hTT : T4 = insT T q nm rcdT := hT4
          have HTT := Lib.hid hTT
          clear hTT hT4 hg1 hg2 ho4 hs3
          go_wp2_with fail
          refine HCALL.out.mono ?_
          rintro e w6 ⟨e6, T6, n6, hch6, ⟨v6, rfl, hz6, hv6⟩, ho6⟩
          have H26 := Lib.hid (H24.out.trans (HW5.out.trans ho6))
          have HPOST : Hid (∀ wE, Only (fun b => b = N + 1) w6 wE → ChPost S (⟨k, i, nm⟩ :: l) T X w (retV v6 e6) wE) := Lib.hid fun wE hE => ⟨e6, T6, n6, ch_ins HAP.out HLN.out HL0.out hk1 h64 hq (by rw [HTT.out] at hch6; exact hch6), res_new4 hv6 hz6 HN.out HS5.out (by omega) hE (fun b e => by omega), (HO2.out.trans H26.out).trans_more (hE.mono (fun b e => .inr (by rw [HN.out]; omega)))⟩
          clear hch6 hz6 hv6 ho6 r0 rf0 r1 rf1 r2 rf2 r3 rf3 r4 rf4 r5 rf5
          have r0 : w6.cell? ⟨N + 1, 0, none⟩ = some (.int .i64 0) := ((HC1.out w6 H26.out)).cell 0
          have rf0 : w6.frozen? ⟨N + 1, 0, none⟩ = false := ((HC1.out w6 H26.out)).frozen 0
          have r1 : w6.cell? ⟨N + 1, 1, none⟩ = some (.int .i64 0) := ((HC1.out w6 H26.out)).cell 1
          have rf1 : w6.frozen? ⟨N + 1, 1, none⟩ = false := ((HC1.out w6 H26.out)).frozen 1
          have r2 : w6.cell? ⟨N + 1, 2, none⟩ = some (.int .i64 0) := ((HC1.out w6 H26.out)).cell 2
          have rf2 : w6.frozen? ⟨N + 1, 2, none⟩ = false := ((HC1.out w6 H26.out)).frozen 2
          have r3 : w6.cell? ⟨N + 1, 3, none⟩ = some (.string ⟨#[]⟩) := ((HC1.out w6 H26.out)).cell 3
          have rf3 : w6.frozen? ⟨N + 1, 3, none⟩ = false := ((HC1.out w6 H26.out)).frozen 3
          have r4 : w6.cell? ⟨N + 1, 4, none⟩ = some (.slice none 0 0) := ((HC1.out w6 H26.out)).cell 4
          have rf4 : w6.frozen? ⟨N + 1, 4, none⟩ = false := ((HC1.out w6 H26.out)).frozen 4
          have r5 : w6.cell? ⟨N + 1, 5, none⟩ = some (.slice none 0 0) := ((HC1.out w6 H26.out)).cell 5
          have rf5 : w6.frozen? ⟨N + 1, 5, none⟩ = false := ((HC1.out w6 H26.out)).frozen 5
          unfold retV at HPOST ⊢
          go_wp2_with fail
          exact bodyPost_ret (v := .tuple #[.agg #[.int .i64 v6.k, .int .i64 v6.i, .int .i64 v6.s, .string v6.t, .slice v6.la v6.ln v6.lc, .slice v6.fa v6.fn v6.fc], .int .i64 e6]) (by simp [results, Tryd.results33, go_sem, r0, r1, r2, r3, r4, r5]) rfl (HPOST.out _ (by repeat (first | with_reducible exact Only.refl _ _ | with_reducible refine Only.drew ?_ | with_reducible refine Only.alloc ?_ _ | with_reducible refine Only.setCell ?_ (Or.inl ?_) _ | exact rfl | exact Or.inl rfl | exact Or.inr (Or.inl rfl) | exact Or.inr (Or.inr rfl) | exact Or.inr rfl)))
        · have HPOST : Hid (∀ wE, Only (fun b => b = N + 1) w4 wE → ChPost S (⟨k, i, nm⟩ :: l) T X w (retV zeroC er) wE) := Lib.hid fun wE hE => ⟨er, T, 0, add_err HAP.out HLN.out HL0.out HADD.out her, res_err her, HO4.out.trans_more (hE.mono (fun b e => .inr (by rw [HN.out]; omega)))⟩
          have hne : (er != 0) = true := by simpa using her
          have hnf : (er == 0) = false := by simpa using her
          clear her ho4
          have t0 : (w4.alloc (.cells #[.int .i64 v5.k, .int .i64 v5.i, .int .i64 v5.s, .string v5.t, .slice v5.la v5.ln v5.lc, .slice v5.fa v5.fn v5.fc] 25)).cell? ⟨N + 1, 0, none⟩ = some (.int .i64 0) := ((HC1.out _ (H24.out.alloc (.cells #[.int .i64 v5.k, .int .i64 v5.i, .int .i64 v5.s, .string v5.t, .slice v5.la v5.ln v5.lc, .slice v5.fa v5.fn v5.fc] 25)))).cell 0
          have tf0 : (w4.alloc (.cells #[.int .i64 v5.k, .int .i64 v5.i, .int .i64 v5.s, .string v5.t, .slice v5.la v5.ln v5.lc, .slice v5.fa v5.fn v5.fc] 25)).frozen? ⟨N + 1, 0, none⟩ = false := ((HC1.out _ (H24.out.alloc (.cells #[.int .i64 v5.k, .int .i64 v5.i, .int .i64 v5.s, .string v5.t, .slice v5.la v5.ln v5.lc, .slice v5.fa v5.fn v5.fc] 25)))).frozen 0
          have t1 : (w4.alloc (.cells #[.int .i64 v5.k, .int .i64 v5.i, .int .i64 v5.s, .string v5.t, .slice v5.la v5.ln v5.lc, .slice v5.fa v5.fn v5.fc] 25)).cell? ⟨N + 1, 1, none⟩ = some (.int .i64 0) := ((HC1.out _ (H24.out.alloc (.cells #[.int .i64 v5.k, .int .i64 v5.i, .int .i64 v5.s, .string v5.t, .slice v5.la v5.ln v5.lc, .slice v5.fa v5.fn v5.fc] 25)))).cell 1
          have tf1 : (w4.alloc (.cells #[.int .i64 v5.k, .int .i64 v5.i, .int .i64 v5.s, .string v5.t, .slice v5.la v5.ln v5.lc, .slice v5.fa v5.fn v5.fc] 25)).frozen? ⟨N + 1, 1, none⟩ = false := ((HC1.out _ (H24.out.alloc (.cells #[.int .i64 v5.k, .int .i64 v5.i, .int .i64 v5.s, .string v5.t, .slice v5.la v5.ln v5.lc, .slice v5.fa v5.fn v5.fc] 25)))).frozen 1
          have t2 : (w4.alloc (.cells #[.int .i64 v5.k, .int .i64 v5.i, .int .i64 v5.s, .string v5.t, .slice v5.la v5.ln v5.lc, .slice v5.fa v5.fn v5.fc] 25)).cell? ⟨N + 1, 2, none⟩ = some (.int .i64 0) := ((HC1.out _ (H24.out.alloc (.cells #[.int .i64 v5.k, .int .i64 v5.i, .int .i64 v5.s, .string v5.t, .slice v5.la v5.ln v5.lc, .slice v5.fa v5.fn v5.fc] 25)))).cell 2
          have tf2 : (w4.alloc (.cells #[.int .i64 v5.k, .int .i64 v5.i, .int .i64 v5.s, .string v5.t, .slice v5.la v5.ln v5.lc, .slice v5.fa v5.fn v5.fc] 25)).frozen? ⟨N + 1, 2, none⟩ = false := ((HC1.out _ (H24.out.alloc (.cells #[.int .i64 v5.k, .int .i64 v5.i, .int .i64 v5.s, .string v5.t, .slice v5.la v5.ln v5.lc, .slice v5.fa v5.fn v5.fc] 25)))).frozen 2
          have t3 : (w4.alloc (.cells #[.int .i64 v5.k, .int .i64 v5.i, .int .i64 v5.s, .string v5.t, .slice v5.la v5.ln v5.lc, .slice v5.fa v5.fn v5.fc] 25)).cell? ⟨N + 1, 3, none⟩ = some (.string ⟨#[]⟩) := ((HC1.out _ (H24.out.alloc (.cells #[.int .i64 v5.k, .int .i64 v5.i, .int .i64 v5.s, .string v5.t, .slice v5.la v5.ln v5.lc, .slice v5.fa v5.fn v5.fc] 25)))).cell 3
          have tf3 : (w4.alloc (.cells #[.int .i64 v5.k, .int .i64 v5.i, .int .i64 v5.s, .string v5.t, .slice v5.la v5.ln v5.lc, .slice v5.fa v5.fn v5.fc] 25)).frozen? ⟨N + 1, 3, none⟩ = false := ((HC1.out _ (H24.out.alloc (.cells #[.int .i64 v5.k, .int .i64 v5.i, .int .i64 v5.s, .string v5.t, .slice v5.la v5.ln v5.lc, .slice v5.fa v5.fn v5.fc] 25)))).frozen 3
          have t4 : (w4.alloc (.cells #[.int .i64 v5.k, .int .i64 v5.i, .int .i64 v5.s, .string v5.t, .slice v5.la v5.ln v5.lc, .slice v5.fa v5.fn v5.fc] 25)).cell? ⟨N + 1, 4, none⟩ = some (.slice none 0 0) := ((HC1.out _ (H24.out.alloc (.cells #[.int .i64 v5.k, .int .i64 v5.i, .int .i64 v5.s, .string v5.t, .slice v5.la v5.ln v5.lc, .slice v5.fa v5.fn v5.fc] 25)))).cell 4
          have tf4 : (w4.alloc (.cells #[.int .i64 v5.k, .int .i64 v5.i, .int .i64 v5.s, .string v5.t, .slice v5.la v5.ln v5.lc, .slice v5.fa v5.fn v5.fc] 25)).frozen? ⟨N + 1, 4, none⟩ = false := ((HC1.out _ (H24.out.alloc (.cells #[.int .i64 v5.k, .int .i64 v5.i, .int .i64 v5.s, .string v5.t, .slice v5.la v5.ln v5.lc, .slice v5.fa v5.fn v5.fc] 25)))).frozen 4
          have t5 : (w4.alloc (.cells #[.int .i64 v5.k, .int .i64 v5.i, .int .i64 v5.s, .string v5.t, .slice v5.la v5.ln v5.lc, .slice v5.fa v5.fn v5.fc] 25)).cell? ⟨N + 1, 5, none⟩ = some (.slice none 0 0) := ((HC1.out _ (H24.out.alloc (.cells #[.int .i64 v5.k, .int .i64 v5.i, .int .i64 v5.s, .string v5.t, .slice v5.la v5.ln v5.lc, .slice v5.fa v5.fn v5.fc] 25)))).cell 5
          have tf5 : (w4.alloc (.cells #[.int .i64 v5.k, .int .i64 v5.i, .int .i64 v5.s, .string v5.t, .slice v5.la v5.ln v5.lc, .slice v5.fa v5.fn v5.fc] 25)).frozen? ⟨N + 1, 5, none⟩ = false := ((HC1.out _ (H24.out.alloc (.cells #[.int .i64 v5.k, .int .i64 v5.i, .int .i64 v5.s, .string v5.t, .slice v5.la v5.ln v5.lc, .slice v5.fa v5.fn v5.fc] 25)))).frozen 5
          unfold retV at HPOST
          go_wp2_with fail
          exact bodyPost_ret (v := .tuple #[.agg #[.int .i64 0, .int .i64 0, .int .i64 0, .string ⟨#[]⟩, .slice none 0 0, .slice none 0 0], .int .i64 er]) (by simp [results, Tryd.results33, go_sem, t0, t1, t2, t3, t4, t5]) rfl (HPOST.out _ (by repeat (first | with_reducible exact Only.refl _ _ | with_reducible refine Only.drew ?_ | with_reducible refine Only.alloc ?_ _ | with_reducible refine Only.setCell ?_ (Or.inl ?_) _ | exact rfl | exact Or.inl rfl | exact Or.inr (Or.inl rfl) | exact Or.inr (Or.inr rfl) | exact Or.inr rfl)))
      | cons U rest =>
        have HL0 := Lib.hid hL
        have hmI : ¬ (m3 : Int) = 0 := by rw [hm3, hL]; simp; omega
        have hmB3 : ((m3 : Int) == 0) = false := by simpa using hmI
        have hmN3 : (m3 == 0) = false := by rw [hm3, hL]; rfl
        have hm30 : 0 < m3 := by rw [hm3, hL]; simp
        have hm3I : (0 : Int) < (m3 : Int) := by omega
        obtain ⟨a3, rfl⟩ := HR3.out.some_ hm30
        obtain ⟨u, hu, huv⟩ : ∃ u, V3[0]? = some u ∧ VAt w3 (fun b => S b ∧ b < N) n u U := by
          obtain ⟨u, hu, h⟩ := HA3.out.get' (j := 0) (b := U) (by rw [hL]; rfl)
          exact ⟨u, hu, h⟩
        have HU0 := Lib.hid hu
        have HUV := Lib.hid huv
        have hszU : Hid (U.size ≤ 140737488351232) := Lib.hid (by have h1 := lead_size1 hL; have h2 := HSZ.out; omega)
        have HPT := Lib.hid HP.out.tail_
        have hml := HML.out
        have hs3 : Hid (N + 3 ≤ w3.heap.size) := Lib.hid (by rw [← HS2.out]; exact H23.out.size)
        have h1c : (1 : Int) ≤ (c : Int) := by omega
        have h1m : (1 : Int) ≤ (m : Int) := by omega
        have hc1 : ¬ (c = 1) := by omega
        have HUC : Hid (∀ w', Only Nobody w3 w' → w'.cell? a3 = some (.int .i64 u.k) ∧ w'.cell? ⟨a3.block, a3.off + 1, none⟩ = some (.int .i64 u.i) ∧ w'.cell? ⟨a3.block, a3.off + 2, none⟩ = some (.int .i64 u.s) ∧ w'.cell? ⟨a3.block, a3.off + 3, none⟩ = some (.string u.t) ∧ w'.cell? ⟨a3.block, a3.off + 4, none⟩ = some (.slice u.la u.ln u.lc) ∧ w'.cell? ⟨a3.block, a3.off + 5, none⟩ = some (.slice u.fa u.fn u.fc)) := Lib.hid fun w' h => by
          obtain ⟨z0, z1, z2, z3, z4, z5⟩ := (HR3.out.same h).vat HU0.out
          rw [Nat.zero_mul, addr_zero] at z0 z1 z2 z3 z4 z5
          exact ⟨z0, z1, z2, z3, z4, z5⟩
        clear hL hm3 hu huv hml
        have b0 : w3.cell? ⟨N, 0, none⟩ = some (.int .i64 v.k) := ((HC0.out w3 H23.out)).cell 0
        have b1 : w3.cell? ⟨N, 1, none⟩ = some (.int .i64 v.i) := ((HC0.out w3 H23.out)).cell 1
        have b2 : w3.cell? ⟨N, 2, none⟩ = some (.int .i64 v.s) := ((HC0.out w3 H23.out)).cell 2
        have b3 : w3.cell? ⟨N, 3, none⟩ = some (.string v.t) := ((HC0.out w3 H23.out)).cell 3
        have b4 : w3.cell? ⟨N, 4, none⟩ = some (.slice v.la v.ln v.lc) := ((HC0.out w3 H23.out)).cell 4
        have b5 : w3.cell? ⟨N, 5, none⟩ = some (.slice v.fa v.fn v.fc) := ((HC0.out w3 H23.out)).cell 5
        have p0 : w3.cell? ⟨N + 2, 0, none⟩ = some (.int .i64 k) := ((HC2.out w3 H23.out)).cell 0
        have p1 : w3.cell? ⟨N + 2, 1, none⟩ = some (.int .i64 i) := ((HC2.out w3 H23.out)).cell 1
        have p2 : w3.cell? ⟨N + 2, 2, none⟩ = some (.string nm) := ((HC2.out w3 H23.out)).cell 2
        have HOX := Lib.hid (Only.refl Nobody w3)
        have HN4 : Hid (w3.heap.size ≤ w3.heap.size) := Lib.hid (Nat.le_refl _)
        have HZ3 : Hid (∀ w', Only Nobody (w3.alloc (.cells #[.int .i64 0, .int .i64 0, .int .i64 0, .string ⟨#[]⟩, .slice none 0 0, .slice none 0 0] 25)) w' → Blk w' w3.heap.size 25 #[.int .i64 0, .int .i64 0, .int .i64 0, .string ⟨#[]⟩, .slice none 0 0, .slice none 0 0]) := Lib.hid fun w' h' => h'.blk (Blk.new w3 _ _) (fun x => x)
        have huc := HUC.out w3 HOX.out
        go_upto_region 12 with fail
        go_cut [14, 15] (fun yb ee wx => ∃ (vy : VC) (Yb : Nat) (e : Int) (Y : VT) (n' : Nat), yb = .pointer (some ⟨Yb, 0, none⟩) ∧ ee = .int .i64 e ∧ Blk wx Yb 25 #[.int .i64 vy.k, .int .i64 vy.i, .int .i64 vy.s, .string vy.t, .slice vy.la vy.ln vy.lc, .slice vy.fa vy.fn vy.fc] ∧ Hid (ChR l U X e Y) ∧ Hid (e ≠ 0 → vy = zeroC) ∧ Hid (e = 0 → VAt wx (fun b => (S b ∧ b < N) ∨ N + 3 ≤ b) n' vy Y) ∧ Only Nobody w3 wx)
        case first =>
          go_region_held3 (fun w' => w'.cell? a3 = some (.int .i64 u.k) ∧ w'.cell? ⟨a3.block, a3.off + 1, none⟩ = some (.int .i64 u.i) ∧ w'.cell? ⟨a3.block, a3.off + 2, none⟩ = some (.int .i64 u.s) ∧ w'.cell? ⟨a3.block, a3.off + 3, none⟩ = some (.string u.t) ∧ w'.cell? ⟨a3.block, a3.off + 4, none⟩ = some (.slice u.la u.ln u.lc) ∧ w'.cell? ⟨a3.block, a3.off + 5, none⟩ = some (.slice u.fa u.fn u.fc)) (exact HUC.out _ (by repeat (first | with_reducible exact HOX.out | with_reducible exact Only.refl _ _ | with_reducible refine Only.drew ?_ | with_reducible refine Only.alloc ?_ _ | with_reducible refine Only.setCell ?_ (Or.inr ?_) _ | exact HN4.out | exact Nat.le_refl _))) (first
            | (go_at_call 33; refine (HIH.out HLN.out U u x X (fun b => S b ∧ b < N) n (some (ad.add 3)) (m - 1) (c - 1) ba bx bm _ hszU.out (by omega) (by omega) (HUV.out.same (by repeat (first | with_reducible exact HOX.out | with_reducible exact Only.refl _ _ | with_reducible refine Only.drew ?_ | with_reducible refine Only.alloc ?_ _ | with_reducible refine Only.setCell ?_ (Or.inr ?_) _ | exact HN4.out | exact Nat.le_refl _))) ((vat_in HX.out HN.out HO3.out).same (by repeat (first | with_reducible exact HOX.out | with_reducible exact Only.refl _ _ | with_reducible refine Only.drew ?_ | with_reducible refine Only.alloc ?_ _ | with_reducible refine Only.setCell ?_ (Or.inr ?_) _ | exact HN4.out | exact Nat.le_refl _))) (HPT.out.same (HO3.out.trans (by repeat (first | with_reducible exact HOX.out | with_reducible exact Only.refl _ _ | with_reducible refine Only.drew ?_ | with_reducible refine Only.alloc ?_ _ | with_reducible refine Only.setCell ?_ (Or.inr ?_) _ | exact HN4.out | exact Nat.le_refl _)))) (HBA.out _ (HO3.out.trans (by repeat (first | with_reducible exact HOX.out | with_reducible exact Only.refl _ _ | with_reducible refine Only.drew ?_ | with_reducible refine Only.alloc ?_ _ | with_reducible refine Only.setCell ?_ (Or.inr ?_) _ | exact HN4.out | exact Nat.le_refl _)))) (HBX.out _ (HO3.out.trans (by repeat (first | with_reducible exact HOX.out | with_reducible exact Only.refl _ _ | with_reducible refine Only.drew ?_ | with_reducible refine Only.alloc ?_ _ | with_reducible refine Only.setCell ?_ (Or.inr ?_) _ | exact HN4.out | exact Nat.le_refl _)))) (HBM.out _ (HO3.out.trans (by repeat (first | with_reducible exact HOX.out | with_reducible exact Only.refl _ _ | with_reducible refine Only.drew ?_ | with_reducible refine Only.alloc ?_ _ | with_reducible refine Only.setCell ?_ (Or.inr ?_) _ | exact HN4.out | exact Nat.le_refl _))))).mono ?_; rintro e w4 ⟨er, Y, n', hch, ⟨vy, rfl, hzy, hvy⟩, ho4⟩; unfold retV; have HCH := Lib.hid hch; have HZY := Lib.hid hzy; (first | ((first | (with_reducible have HBK := HZ3.out w4 ho4) | (have HBK := HZ3.out w4 (Only.trans (Only.refl _ _).drew ho4))); have e0 : w4.cell? ⟨w3.heap.size, 0, none⟩ = some (.int .i64 0) := HBK.cell 0; have ef0 : w4.frozen? ⟨w3.heap.size, 0, none⟩ = false := HBK.frozen 0; have e1 : w4.cell? ⟨w3.heap.size, 1, none⟩ = some (.int .i64 0) := HBK.cell 1; have ef1 : w4.frozen? ⟨w3.heap.size, 1, none⟩ = false := HBK.frozen 1; have e2 : w4.cell? ⟨w3.heap.size, 2, none⟩ = some (.int .i64 0) := HBK.cell 2; have ef2 : w4.frozen? ⟨w3.heap.size, 2, none⟩ = false := HBK.frozen 2; have e3 : w4.cell? ⟨w3.heap.size, 3, none⟩ = some (.string ⟨#[]⟩) := HBK.cell 3; have ef3 : w4.frozen? ⟨w3.heap.size, 3, none⟩ = false := HBK.frozen 3; have e4 : w4.cell? ⟨w3.heap.size, 4, none⟩ = some (.slice none 0 0) := HBK.cell 4; have ef4 : w4.frozen? ⟨w3.heap.size, 4, none⟩ = false := HBK.frozen 4; have e5 : w4.cell? ⟨w3.heap.size, 5, none⟩ = some (.slice none 0 0) := HBK.cell 5; have ef5 : w4.frozen? ⟨w3.heap.size, 5, none⟩ = false := HBK.frozen 5; have HYV : Hid (er = 0 → VAt w4 (fun b => b ≠ w3.heap.size ∧ ((S b ∧ b < N) ∨ N + 3 ≤ b)) n' vy Y) := Lib.hid fun h0 => (hvy h0).mono fun b hb hs => ⟨(by intro e; subst e; rcases hs with hs | hs; have h9 := hs.2; have h8 := hs3.out; omega; simp at hs <;> omega), (by rcases hs with hs | hs; exact .inl hs; exact .inr (Nat.le_trans hs3.out (Nat.le_trans (Only.size (F := Nobody) (by repeat (first | with_reducible exact HOX.out | with_reducible exact Only.refl _ _ | with_reducible refine Only.drew ?_ | with_reducible refine Only.alloc ?_ _ | with_reducible refine Only.setCell ?_ (Or.inr ?_) _ | exact HN4.out | exact Nat.le_refl _))) hs)))⟩; have HBK := Lib.hid HBK) | (have HBK := Blk.new w4 25 #[.int .i64 0, .int .i64 0, .int .i64 0, .string ⟨#[]⟩, .slice none 0 0, .slice none 0 0]; have e0 : (w4.alloc (.cells #[.int .i64 0, .int .i64 0, .int .i64 0, .string ⟨#[]⟩, .slice none 0 0, .slice none 0 0] 25)).cell? ⟨w4.heap.size, 0, none⟩ = some (.int .i64 0) := HBK.cell 0; have ef0 : (w4.alloc (.cells #[.int .i64 0, .int .i64 0, .int .i64 0, .string ⟨#[]⟩, .slice none 0 0, .slice none 0 0] 25)).frozen? ⟨w4.heap.size, 0, none⟩ = false := HBK.frozen 0; have e1 : (w4.alloc (.cells #[.int .i64 0, .int .i64 0, .int .i64 0, .string ⟨#[]⟩, .slice none 0 0, .slice none 0 0] 25)).cell? ⟨w4.heap.size, 1, none⟩ = some (.int .i64 0) := HBK.cell 1; have ef1 : (w4.alloc (.cells #[.int .i64 0, .int .i64 0, .int .i64 0, .string ⟨#[]⟩, .slice none 0 0, .slice none 0 0] 25)).frozen? ⟨w4.heap.size, 1, none⟩ = false := HBK.frozen 1; have e2 : (w4.alloc (.cells #[.int .i64 0, .int .i64 0, .int .i64 0, .string ⟨#[]⟩, .slice none 0 0, .slice none 0 0] 25)).cell? ⟨w4.heap.size, 2, none⟩ = some (.int .i64 0) := HBK.cell 2; have ef2 : (w4.alloc (.cells #[.int .i64 0, .int .i64 0, .int .i64 0, .string ⟨#[]⟩, .slice none 0 0, .slice none 0 0] 25)).frozen? ⟨w4.heap.size, 2, none⟩ = false := HBK.frozen 2; have e3 : (w4.alloc (.cells #[.int .i64 0, .int .i64 0, .int .i64 0, .string ⟨#[]⟩, .slice none 0 0, .slice none 0 0] 25)).cell? ⟨w4.heap.size, 3, none⟩ = some (.string ⟨#[]⟩) := HBK.cell 3; have ef3 : (w4.alloc (.cells #[.int .i64 0, .int .i64 0, .int .i64 0, .string ⟨#[]⟩, .slice none 0 0, .slice none 0 0] 25)).frozen? ⟨w4.heap.size, 3, none⟩ = false := HBK.frozen 3; have e4 : (w4.alloc (.cells #[.int .i64 0, .int .i64 0, .int .i64 0, .string ⟨#[]⟩, .slice none 0 0, .slice none 0 0] 25)).cell? ⟨w4.heap.size, 4, none⟩ = some (.slice none 0 0) := HBK.cell 4; have ef4 : (w4.alloc (.cells #[.int .i64 0, .int .i64 0, .int .i64 0, .string ⟨#[]⟩, .slice none 0 0, .slice none 0 0] 25)).frozen? ⟨w4.heap.size, 4, none⟩ = false := HBK.frozen 4; have e5 : (w4.alloc (.cells #[.int .i64 0, .int .i64 0, .int .i64 0, .string ⟨#[]⟩, .slice none 0 0, .slice none 0 0] 25)).cell? ⟨w4.heap.size, 5, none⟩ = some (.slice none 0 0) := HBK.cell 5; have ef5 : (w4.alloc (.cells #[.int .i64 0, .int .i64 0, .int .i64 0, .string ⟨#[]⟩, .slice none 0 0, .slice none 0 0] 25)).frozen? ⟨w4.heap.size, 5, none⟩ = false := HBK.frozen 5; have HYV : Hid (er = 0 → VAt w4 (fun b => b ≠ w4.heap.size ∧ ((S b ∧ b < N) ∨ N + 3 ≤ b)) n' vy Y) := Lib.hid fun h0 => (hvy h0).mono fun b hb hs => ⟨(by omega), (by rcases hs with hs | hs; exact .inl hs; exact .inr (Nat.le_trans hs3.out (Nat.le_trans (Only.size (F := Nobody) (by repeat (first | with_reducible exact HOX.out | with_reducible exact Only.refl _ _ | with_reducible refine Only.drew ?_ | with_reducible refine Only.alloc ?_ _ | with_reducible refine Only.setCell ?_ (Or.inr ?_) _ | exact HN4.out | exact Nat.le_refl _))) hs)))⟩; have HBK := Lib.hid HBK)); have HOX : Hid (Only Nobody w3 w4) := Lib.hid (Only.trans (by repeat (first | with_reducible exact HOX.out | with_reducible exact Only.refl _ _ | with_reducible refine Only.drew ?_ | with_reducible refine Only.alloc ?_ _ | with_reducible refine Only.setCell ?_ (Or.inr ?_) _ | exact HN4.out | exact Nat.le_refl _)) ho4); have HN4 : Hid (w3.heap.size ≤ w4.heap.size) := Lib.hid HOX.out.size; clear hch hzy hvy ho4))
          all_goals
            go_wp2_with fail
            go_meet
            refine ⟨vy, _, er, Y, n', rfl, rfl, ?_, HCH, HZY, Lib.hid fun h0 => ((HYV.out h0).keep (F := fun b => b = _) ?_ (fun b hb e => hb.1 e)).mono (fun b _ hb => hb.2), ?_⟩
            · first
                | with_reducible exact Blk.new _ _ _
                | exact (((((HBK.out.set_ 0 _).set_ 1 _).set_ 2 _).set_ 3 _).set_ 4 _).set_ 5 _
            · repeat (first | with_reducible exact Only.refl _ _ | with_reducible refine Only.drew ?_ | with_reducible refine Only.alloc ?_ _ | with_reducible refine Only.setCell ?_ (Or.inl ?_) _ | exact rfl)
            · exact (by repeat (first | with_reducible exact HOX.out | with_reducible exact Only.refl _ _ | with_reducible refine Only.drew ?_ | with_reducible refine Only.alloc ?_ _ | with_reducible refine Only.setCell ?_ (Or.inr ?_) _ | exact HN4.out | exact Nat.le_refl _))
        case rest =>
          obtain ⟨vy, Yb, e6, Y, n', rfl, rfl, hby, hch, hzy, hvy, hox⟩ := hcut
          have HBY : Hid (∀ w', Only Nobody wc w' → Blk w' Yb 25 #[.int .i64 vy.k, .int .i64 vy.i, .int .i64 vy.s, .string vy.t, .slice vy.la vy.ln vy.lc, .slice vy.fa vy.fn vy.fc]) := Lib.hid fun w' h => h.blk hby (fun x => x)
          have H2c := Lib.hid (H23.out.trans hox)
          have HOc := Lib.hid (HO3.out.trans hox)
          have hsc : Hid (N + 3 ≤ wc.heap.size) := Lib.hid (Nat.le_trans hs3.out hox.size)
          have HRc := Lib.hid (Only.refl Nobody wc)
          clear hby hox b0 b1 b2 b3 b4 b5 p0 p1 p2 huc
          by_cases h6 : e6 = 0
          · subst h6
            have b0 : wc.cell? ⟨N, 0, none⟩ = some (.int .i64 v.k) := ((HC0.out wc H2c.out)).cell 0
            have b1 : wc.cell? ⟨N, 1, none⟩ = some (.int .i64 v.i) := ((HC0.out wc H2c.out)).cell 1
            have b2 : wc.cell? ⟨N, 2, none⟩ = some (.int .i64 v.s) := ((HC0.out wc H2c.out)).cell 2
            have b3 : wc.cell? ⟨N, 3, none⟩ = some (.string v.t) := ((HC0.out wc H2c.out)).cell 3
            have b4 : wc.cell? ⟨N, 4, none⟩ = some (.slice v.la v.ln v.lc) := ((HC0.out wc H2c.out)).cell 4
            have b5 : wc.cell? ⟨N, 5, none⟩ = some (.slice v.fa v.fn v.fc) := ((HC0.out wc H2c.out)).cell 5
            have p0 : wc.cell? ⟨N + 2, 0, none⟩ = some (.int .i64 k) := ((HC2.out wc H2c.out)).cell 0
            have p1 : wc.cell? ⟨N + 2, 1, none⟩ = some (.int .i64 i) := ((HC2.out wc H2c.out)).cell 1
            have p2 : wc.cell? ⟨N + 2, 2, none⟩ = some (.string nm) := ((HC2.out wc H2c.out)).cell 2
            have y0 : wc.cell? ⟨Yb, 0, none⟩ = some (.int .i64 vy.k) := ((HBY.out wc HRc.out)).cell 0
            have y1 : wc.cell? ⟨Yb, 1, none⟩ = some (.int .i64 vy.i) := ((HBY.out wc HRc.out)).cell 1
            have y2 : wc.cell? ⟨Yb, 2, none⟩ = some (.int .i64 vy.s) := ((HBY.out wc HRc.out)).cell 2
            have y3 : wc.cell? ⟨Yb, 3, none⟩ = some (.string vy.t) := ((HBY.out wc HRc.out)).cell 3
            have y4 : wc.cell? ⟨Yb, 4, none⟩ = some (.slice vy.la vy.ln vy.lc) := ((HBY.out wc HRc.out)).cell 4
            have y5 : wc.cell? ⟨Yb, 5, none⟩ = some (.slice vy.fa vy.fn vy.fc) := ((HBY.out wc HRc.out)).cell 5
            go_wp2_with fail
            refine (rep_any v vy T Y U rest k i nm (fun b => (S b ∧ b < N) ∨ N + 3 ≤ b) (max n n') wc ((vat_in4 (vat_in HV.out HN.out HOc.out)).le (by omega)) ((hvy.out (by first | rfl | trivial)).le (by omega)) HVAL.out H3.out HAP.out HL0.out hT).mono ?_
            rintro e w6 ⟨v6, rfl, hv6, ho6⟩
            have H26 := Lib.hid (H2c.out.trans ho6)
            have HPOST : Hid (∀ wE, Only (fun b => b = N + 1) w6 wE → ChPost S (⟨k, i, nm⟩ :: l) T X w (retV v6 0) wE) := Lib.hid fun wE hE => ⟨0, _, _, .inr ⟨HAP.out, .inr ⟨HLN.out, .inr ⟨U, rest, HL0.out, Y, hch.out, fun _ => rfl⟩⟩⟩, ⟨v6, rfl, fun h0 => absurd rfl h0, fun _ => vat_new4 hv6 HN.out hsc.out (by omega) hE (fun b e => by omega)⟩, (HOc.out.trans ho6).trans_more (hE.mono (fun b e => .inr (by rw [HN.out]; omega)))⟩
            clear hv6 ho6 b0 b1 b2 b3 b4 b5 y0 y1 y2 y3 y4 y5 p0 p1 p2
            have r0 : w6.cell? ⟨N + 1, 0, none⟩ = some (.int .i64 0) := ((HC1.out w6 H26.out)).cell 0
            have rf0 : w6.frozen? ⟨N + 1, 0, none⟩ = false := ((HC1.out w6 H26.out)).frozen 0
            have r1 : w6.cell? ⟨N + 1, 1, none⟩ = some (.int .i64 0) := ((HC1.out w6 H26.out)).cell 1
            have rf1 : w6.frozen? ⟨N + 1, 1, none⟩ = false := ((HC1.out w6 H26.out)).frozen 1
            have r2 : w6.cell? ⟨N + 1, 2, none⟩ = some (.int .i64 0) := ((HC1.out w6 H26.out)).cell 2
            have rf2 : w6.frozen? ⟨N + 1, 2, none⟩ = false := ((HC1.out w6 H26.out)).frozen 2
            have r3 : w6.cell? ⟨N + 1, 3, none⟩ = some (.string ⟨#[]⟩) := ((HC1.out w6 H26.out)).cell 3
            have rf3 : w6.frozen? ⟨N + 1, 3, none⟩ = false := ((HC1.out w6 H26.out)).frozen 3
            have r4 : w6.cell? ⟨N + 1, 4, none⟩ = some (.slice none 0 0) := ((HC1.out w6 H26.out)).cell 4
            have rf4 : w6.frozen? ⟨N + 1, 4, none⟩ = false := ((HC1.out w6 H26.out)).frozen 4
            have r5 : w6.cell? ⟨N + 1, 5, none⟩ = some (.slice none 0 0) := ((HC1.out w6 H26.out)).cell 5
            have rf5 : w6.frozen? ⟨N + 1, 5, none⟩ = false := ((HC1.out w6 H26.out)).frozen 5
            unfold retV at HPOST
            go_wp2_with fail
            exact bodyPost_ret (v := .tuple #[.agg #[.int .i64 v6.k, .int .i64 v6.i, .int .i64 v6.s, .string v6.t, .slice v6.la v6.ln v6.lc, .slice v6.fa v6.fn v6.fc], .int .i64 0]) (by simp [results, Tryd.results33, go_sem, r0, r1, r2, r3, r4, r5]) rfl (HPOST.out _ (by repeat (first | with_reducible exact Only.refl _ _ | with_reducible refine Only.drew ?_ | with_reducible refine Only.alloc ?_ _ | with_reducible refine Only.setCell ?_ (Or.inl ?_) _ | exact rfl | exact Or.inl rfl | exact Or.inr (Or.inl rfl) | exact Or.inr (Or.inr rfl) | exact Or.inr rfl)))
          · have HPOST : Hid (∀ wE, Only (fun b => b = N + 1) wc wE → ChPost S (⟨k, i, nm⟩ :: l) T X w (retV zeroC e6) wE) := Lib.hid fun wE hE => ⟨e6, T, 0, .inr ⟨HAP.out, .inr ⟨HLN.out, .inr ⟨U, rest, HL0.out, Y, hch.out, fun h => absurd h h6⟩⟩⟩, res_err h6, HOc.out.trans_more (hE.mono (fun b e => .inr (by rw [HN.out]; omega)))⟩
            have hne : (e6 != 0) = true := by simpa using h6
            have hnf : (e6 == 0) = false := by simpa using h6
            clear h6
            have r0 : wc.cell? ⟨N + 1, 0, none⟩ = some (.int .i64 0) := ((HC1.out wc H2c.out)).cell 0
            have rf0 : wc.frozen? ⟨N + 1, 0, none⟩ = false := ((HC1.out wc H2c.out)).frozen 0
            have r1 : wc.cell? ⟨N + 1, 1, none⟩ = some (.int .i64 0) := ((HC1.out wc H2c.out)).cell 1
            have rf1 : wc.frozen? ⟨N + 1, 1, none⟩ = false := ((HC1.out wc H2c.out)).frozen 1
            have r2 : wc.cell? ⟨N + 1, 2, none⟩ = some (.int .i64 0) := ((HC1.out wc H2c.out)).cell 2
            have rf2 : wc.frozen? ⟨N + 1, 2, none⟩ = false := ((HC1.out wc H2c.out)).frozen 2
            have r3 : wc.cell? ⟨N + 1, 3, none⟩ = some (.string ⟨#[]⟩) := ((HC1.out wc H2c.out)).cell 3
            have rf3 : wc.frozen? ⟨N + 1, 3, none⟩ = false := ((HC1.out wc H2c.out)).frozen 3
            have r4 : wc.cell? ⟨N + 1, 4, none⟩ = some (.slice none 0 0) := ((HC1.out wc H2c.out)).cell 4
            have rf4 : wc.frozen? ⟨N + 1, 4, none⟩ = false := ((HC1.out wc H2c.out)).frozen 4
            have r5 : wc.cell? ⟨N + 1, 5, none⟩ = some (.slice none 0 0) := ((HC1.out wc H2c.out)).cell 5
            have rf5 : wc.frozen? ⟨N + 1, 5, none⟩ = false := ((HC1.out wc H2c.out)).frozen 5
            unfold retV at HPOST
            go_wp2_with fail
            exact bodyPost_ret (v := .tuple #[.agg #[.int .i64 0, .int .i64 0, .int .i64 0, .string ⟨#[]⟩, .slice none 0 0, .slice none 0 0], .int .i64 e6]) (by simp [results, Tryd.results33, go_sem, r0, r1, r2, r3, r4, r5]) rfl (HPOST.out _ (by repeat (first | with_reducible exact Only.refl _ _ | with_reducible refine Only.drew ?_ | with_reducible refine Only.alloc ?_ _ | with_reducible refine Only.setCell ?_ (Or.inl ?_) _ | exact rfl | exact Or.inl rfl | exact Or.inr (Or.inl rfl) | exact Or.inr (Or.inr rfl) | exact Or.inr rfl)))
theorem change_any : ∀ (l : List Pt) (T : VT), l ≠ [] → l.all validB = true → everyL l = false → ChAt 140737488351232 l T
  | [], _, h, _, _ => absurd rfl h
  | ⟨k, i, nm⟩ :: l, T, _, hv, he => by
    have hv' : validB ⟨k, i, nm⟩ = true ∧ l.all validB = true := by simpa using hv
    have he' : ((k == 3) = false) ∧ everyL l = false := by simpa [everyL] using he
    have ih : l ≠ [] → ∀ U, ChAt 140737488351232 l U := fun hl U => change_any l U hl hv'.2 he'.2
    exact change_walk 140737488351232 (by omega) k i nm l hv'.1 he'.1 ih T (fun _ => Nat.le_refl _) (fun _ T1 h1 => change_walk 140737488351232 (Nat.le_refl _) k i nm l hv'.1 he'.1 ih T1 (fun h0 => by rw [h1] at h0; cases h0) (fun h0 => by rw [h1] at h0; cases h0))
end Go.Proofs.YtdccckoelnnnoaaDoor
