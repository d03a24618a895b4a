/- path.Set: its closures, and change. -/
import Derived.Test.YtdccckoelnnnoaaDoorSetP
namespace Go.Proofs.YtdccckoelnnnoaaDoor
open Go.RowKit
attribute [local go_sem ↓] Go.wp_at_zero Go.wp_at_succ

/-- A value and an error: no value where there is an error. -/
def ResV (S : Nat → Prop) (n : Nat) (er : Int) (T : VT) (e : Ending) (w' : World) : Prop := ∃ v, e = retV v er ∧ (er ≠ 0 → v = zeroC) ∧ (er = 0 → VAt w' S n v T)
def AddPost (S : Nat → Prop) (n : Nat) (T : VT) (p : Pt) (X : VT) (w : World) (e : Ending) (w' : World) : Prop := ∃ er T', AddR T p X er T' ∧ ResV (NewS S w) (n + 1) er T' e w' ∧ Only Nobody w w'
def LastPost (S : Nat → Prop) (n : Nat) (T : VT) (p : Pt) (X : VT) (w : World) (e : Ending) (w' : World) : Prop := ∃ er T', LastR T p X er T' ∧ ResV (NewS S w) (n + 1) er T' e w' ∧ Only Nobody w w'
theorem vat_new {S F : Nat → Prop} {w W w1 wE : World} {N n : Nat} {v : VC} {T : VT} (h : VAt w1 (NewS (fun b => S b ∧ b < N) W) n v T) (hN : w.heap.size = N) (hNW : N ≤ W.heap.size) (hE : Only F w1 wE) (hF : ∀ b, F b → N ≤ b ∧ b < W.heap.size) : VAt wE (NewS S w) n v T :=
  (h.keep hE (fun b hb hf => by
    obtain ⟨h1, h2⟩ := hF b hf
    rcases hb with hb | hb
    · have := hb.2; omega
    · omega)).mono (fun b _ hb => by
    rcases hb with hb | hb
    · exact .inl hb.1
    · exact .inr (by rw [hN]; exact Nat.le_trans hNW hb))
theorem vat_in {S : Nat → Prop} {w W : World} {N n : Nat} {v : VC} {T : VT} (h : VAt w S n v T) (hN : w.heap.size = N) (ho : Only Nobody w W) : VAt W (fun b => S b ∧ b < N) n v T := (h.mono (fun b hb hs => ⟨hs, by omega⟩)).same ho
theorem vat_drop {S : Nat → Prop} {W w1 : World} {N M n : Nat} {v : VC} {T : VT} (h : VAt w1 (NewS (fun b => S b ∧ b < N) W) n v T) (hM : W.heap.size = M) : VAt w1 (fun b => (S b ∧ b < N) ∨ M ≤ b) n v T := h.mono fun b _ hb => by
  rcases hb with hb | hb
  · exact .inl hb
  · exact .inr (by rw [← hM]; exact hb)
/-- replace, of a field or of an element. -/
theorem rep_any (v x : VC) (T X U : VT) (rest : List VT) (k i : Int) (nm : ByteArray) (S : Nat → Prop) (n : Nat) (w : World) (h : VAt w S (n + 1) v T) (hx : VAt w S n x X) (hv : validB ⟨k, i, nm⟩ = true) (h3 : (k == 3) = false) (ha : appT ⟨k, i, nm⟩ T = true) (hl : leadL ⟨k, i, nm⟩ T = U :: rest) (hsz : T.size ≤ 140737488351232) :
    Calls Tryd.prog 36 #[.agg #[.int .i64 v.k, .int .i64 v.i, .int .i64 v.s, .string v.t, .slice v.la v.ln v.lc, .slice v.fa v.fn v.fc], .agg #[.int .i64 k, .int .i64 i, .string nm], .agg #[.int .i64 x.k, .int .i64 x.i, .int .i64 x.s, .string x.t, .slice x.la x.ln x.lc, .slice x.fa x.fn x.fc]] w (RepPost S n (replT T ⟨k, i, nm⟩ X) w) := by
  have hs := VT.size_eq T
  have h1 := sizeL_len T.l
  have h2 := sizeF_len T.f
  obtain ⟨_, ⟨V, hV, hA⟩, ⟨F, hF, hB⟩⟩ := id h
  have hln : v.ln = T.l.length := by rw [← hV.len, hA.1]
  have hfn : v.fn = T.f.length := by rw [← hF.len, hB.1]
  obtain ⟨_, ⟨hk, q, hq, hlt, _⟩ | ⟨hk, q, hq, hlt, _⟩⟩ := lead_parts hv h3 ha hl
  · have hk' : k = 1 := hk
    subst hk'
    have e : replT T ⟨1, i, nm⟩ X = setFT T q X := by unfold replT; rw [if_pos rfl]; show setFT T ((fieldL T.f nm).getD 0) X = _; rw [hq]; rfl
    rw [e]
    exact replaceF_any v x T X i q nm S n w h hx hq hlt (by omega)
  · have hk' : k ≠ 1 := hk
    have hi : i = (q : Int) := hq
    subst hi
    have e : replT T ⟨k, (q : Int), nm⟩ X = setLT T q X := by unfold replT; rw [if_neg hk']; rfl
    rw [e]
    exact replaceL_any v x T X k q nm S n w h hx hk' hlt (by omega)
theorem vat_new2 {S F : Nat → Prop} {w w1 w4 wE : World} {N M n : Nat} {v : VC} {T : VT} (h : VAt w4 (NewS (fun b => S b ∧ b < N) w1) n v T) (hN : w.heap.size = N) (hM : M ≤ w1.heap.size) (hNM : N ≤ M) (hE : Only F w4 wE) (hF : ∀ b, F b → N ≤ b ∧ b < M) : VAt wE (NewS S w) n v T :=
  (h.keep hE (fun b hb hf => by
    obtain ⟨h1, h2⟩ := hF b hf
    rcases hb with hb | hb
    · have := hb.2; omega
    · omega)).mono (fun b _ hb => by
    rcases hb with hb | hb
    · exact .inl hb.1
    · exact .inr (by rw [hN]; exact Nat.le_trans hNM (Nat.le_trans hM hb)))
theorem res_new {S F : Nat → Prop} {w w1 w4 wE : World} {N M n : Nat} {er : Int} {v : VC} {T : VT} (h : er = 0 → VAt w4 (NewS (fun b => S b ∧ b < N) w1) n v T) (hz : er ≠ 0 → v = zeroC) (hN : w.heap.size = N) (hM : M ≤ w1.heap.size) (hNM : N ≤ M) (hE : Only F w4 wE) (hF : ∀ b, F b → N ≤ b ∧ b < M) : ResV (NewS S w) n er T (retV v er) wE :=
  ⟨v, rfl, hz, fun h0 => vat_new2 (h h0) hN hM hNM hE hF⟩
theorem res_err {S : Nat → Prop} {n : Nat} {er : Int} {T : VT} {w' : World} (h : er ≠ 0) : ResV S n er T (retV zeroC er) w' := ⟨zeroC, rfl, fun _ => rfl, fun h0 => absurd h0 h⟩
theorem res_ok {S : Nat → Prop} {n : Nat} {v : VC} {T : VT} {w' : World} (h : VAt w' S n v T) : ResV S n 0 T (retV v 0) w' := ⟨v, rfl, fun h0 => absurd rfl h0, fun _ => h⟩

set_option maxRecDepth 100000 in
set_option maxHeartbeats 2000000 in
theorem set1_any (x : VC) (w : World) : Calls Tryd.prog 30 #[.agg #[.int .i64 x.k, .int .i64 x.i, .int .i64 x.s, .string x.t, .slice x.la x.ln x.lc, .slice x.fa x.fn x.fc]] w fun e w' => (∃ b, e = .returned (.func (.func 31) #[] #[.pointer (some ⟨b, 0, none⟩)]) ∧ Blk w' b 25 #[.int .i64 x.k, .int .i64 x.i, .int .i64 x.s, .string x.t, .slice x.la x.ln x.lc, .slice x.fa x.fn x.fc]) ∧ Only Nobody w w' := by
  go_enter Tryd.func30, Tryd.ntmps30
  go_wp2_with fail
  go_ret
  exact ⟨⟨_, rfl, Blk.new _ _ _⟩, (Only.refl _ _).alloc _⟩
set_option maxRecDepth 100000 in
set_option maxHeartbeats 8000000 in
theorem add_any (v x : VC) (T X : VT) (k i : Int) (nm : ByteArray) (S : Nat → Prop) (b n : Nat) (w : World) (h : VAt w S (n + 1) v T) (hx : VAt w S n x X) (hb : Blk w b 25 #[.int .i64 x.k, .int .i64 x.i, .int .i64 x.s, .string x.t, .slice x.la x.ln x.lc, .slice x.fa x.fn x.fc]) : Calls Tryd.prog 31 #[.agg #[.int .i64 v.k, .int .i64 v.i, .int .i64 v.s, .string v.t, .slice v.la v.ln v.lc, .slice v.fa v.fn v.fc], .agg #[.int .i64 k, .int .i64 i, .string nm], .pointer (some ⟨b, 0, none⟩)] w (AddPost S n T ⟨k, i, nm⟩ X w) := by
  have HV := Lib.hid h
  have HX := Lib.hid hx
  have HBX := Lib.hid hb
  clear h hx hb
  obtain ⟨N, HN⟩ : ∃ N, Hid (w.heap.size = N) := ⟨_, Lib.hid rfl⟩
  obtain ⟨W, HW⟩ : ∃ W, Hid (W = (((w.alloc (.cells #[.int .i64 v.k, .int .i64 v.i, .int .i64 v.s, .string v.t, .slice v.la v.ln v.lc, .slice v.fa v.fn v.fc] 25)).alloc (.cells #[.int .i64 k, .int .i64 i, .string nm] 61)).alloc (.cells #[.int .i64 0, .int .i64 0, .int .i64 0, .string ⟨#[]⟩, .slice none 0 0, .slice none 0 0] 25))) := ⟨_, Lib.hid rfl⟩
  have HOA : Hid (Only Nobody w W) := Lib.hid (by rw [HW.out]; exact (((Only.refl _ _).alloc _).alloc _).alloc _)
  have HB0 : Hid (Blk W (N) 25 #[.int .i64 v.k, .int .i64 v.i, .int .i64 v.s, .string v.t, .slice v.la v.ln v.lc, .slice v.fa v.fn v.fc]) := Lib.hid (by
    have := (Blk.new w 25 #[.int .i64 v.k, .int .i64 v.i, .int .i64 v.s, .string v.t, .slice v.la v.ln v.lc, .slice v.fa v.fn v.fc])
    rw [HW.out, ← HN.out]
    simpa using ((this.alloc (.cells #[.int .i64 k, .int .i64 i, .string nm] 61)).alloc (.cells #[.int .i64 0, .int .i64 0, .int .i64 0, .string ⟨#[]⟩, .slice none 0 0, .slice none 0 0] 25)))
  have HB1 : Hid (Blk W (N + 1) 61 #[.int .i64 k, .int .i64 i, .string nm]) := Lib.hid (by
    have := (Blk.new (w.alloc (.cells #[.int .i64 v.k, .int .i64 v.i, .int .i64 v.s, .string v.t, .slice v.la v.ln v.lc, .slice v.fa v.fn v.fc] 25)) 61 #[.int .i64 k, .int .i64 i, .string nm])
    rw [HW.out, ← HN.out]
    simpa using (this.alloc (.cells #[.int .i64 0, .int .i64 0, .int .i64 0, .string ⟨#[]⟩, .slice none 0 0, .slice none 0 0] 25)))
  have HB2 : Hid (Blk W (N + 1 + 1) 25 #[.int .i64 0, .int .i64 0, .int .i64 0, .string ⟨#[]⟩, .slice none 0 0, .slice none 0 0]) := Lib.hid (by
    have := (Blk.new ((w.alloc (.cells #[.int .i64 v.k, .int .i64 v.i, .int .i64 v.s, .string v.t, .slice v.la v.ln v.lc, .slice v.fa v.fn v.fc] 25)).alloc (.cells #[.int .i64 k, .int .i64 i, .string nm] 61)) 25 #[.int .i64 0, .int .i64 0, .int .i64 0, .string ⟨#[]⟩, .slice none 0 0, .slice none 0 0])
    rw [HW.out, ← HN.out]
    simpa using this)
  have HWS : Hid (W.heap.size = N + 3) := Lib.hid (by rw [HW.out, ← HN.out]; simp)
  go_enter Tryd.func31, Tryd.ntmps31
  go_upto_region 1 with fail
  rw [← HW.out, HN.out]
  have HCX : Hid (Blk W b 25 #[.int .i64 x.k, .int .i64 x.i, .int .i64 x.s, .string x.t, .slice x.la x.ln x.lc, .slice x.fa x.fn x.fc]) := Lib.hid (HOA.out.blk HBX.out (fun x => x))
  have p0 : W.cell? ⟨N + 1, 0, none⟩ = some (.int .i64 k) := (HB1.out).cell 0
  have p1 : W.cell? ⟨N + 1, 1, none⟩ = some (.int .i64 i) := (HB1.out).cell 1
  have p2 : W.cell? ⟨N + 1, 2, none⟩ = some (.string nm) := (HB1.out).cell 2
  by_cases hk : k = 1
  · subst hk
    have b0 : W.cell? ⟨N, 0, none⟩ = some (.int .i64 v.k) := (HB0.out).cell 0
    have b1 : W.cell? ⟨N, 1, none⟩ = some (.int .i64 v.i) := (HB0.out).cell 1
    have b2 : W.cell? ⟨N, 2, none⟩ = some (.int .i64 v.s) := (HB0.out).cell 2
    have b3 : W.cell? ⟨N, 3, none⟩ = some (.string v.t) := (HB0.out).cell 3
    have b4 : W.cell? ⟨N, 4, none⟩ = some (.slice v.la v.ln v.lc) := (HB0.out).cell 4
    have b5 : W.cell? ⟨N, 5, none⟩ = some (.slice v.fa v.fn v.fc) := (HB0.out).cell 5
    have x0 : W.cell? ⟨b, 0, none⟩ = some (.int .i64 x.k) := (HCX.out).cell 0
    have x1 : W.cell? ⟨b, 1, none⟩ = some (.int .i64 x.i) := (HCX.out).cell 1
    have x2 : W.cell? ⟨b, 2, none⟩ = some (.int .i64 x.s) := (HCX.out).cell 2
    have x3 : W.cell? ⟨b, 3, none⟩ = some (.string x.t) := (HCX.out).cell 3
    have x4 : W.cell? ⟨b, 4, none⟩ = some (.slice x.la x.ln x.lc) := (HCX.out).cell 4
    have x5 : W.cell? ⟨b, 5, none⟩ = some (.slice x.fa x.fn x.fc) := (HCX.out).cell 5
    have r0 : W.cell? ⟨N + 1 + 1, 0, none⟩ = some (.int .i64 0) := (HB2.out).cell 0
    have rf0 : W.frozen? ⟨N + 1 + 1, 0, none⟩ = false := (HB2.out).frozen 0
    have r1 : W.cell? ⟨N + 1 + 1, 1, none⟩ = some (.int .i64 0) := (HB2.out).cell 1
    have rf1 : W.frozen? ⟨N + 1 + 1, 1, none⟩ = false := (HB2.out).frozen 1
    have r2 : W.cell? ⟨N + 1 + 1, 2, none⟩ = some (.int .i64 0) := (HB2.out).cell 2
    have rf2 : W.frozen? ⟨N + 1 + 1, 2, none⟩ = false := (HB2.out).frozen 2
    have r3 : W.cell? ⟨N + 1 + 1, 3, none⟩ = some (.string ⟨#[]⟩) := (HB2.out).cell 3
    have rf3 : W.frozen? ⟨N + 1 + 1, 3, none⟩ = false := (HB2.out).frozen 3
    have r4 : W.cell? ⟨N + 1 + 1, 4, none⟩ = some (.slice none 0 0) := (HB2.out).cell 4
    have rf4 : W.frozen? ⟨N + 1 + 1, 4, none⟩ = false := (HB2.out).frozen 4
    have r5 : W.cell? ⟨N + 1 + 1, 5, none⟩ = some (.slice none 0 0) := (HB2.out).cell 5
    have rf5 : W.frozen? ⟨N + 1 + 1, 5, none⟩ = false := (HB2.out).frozen 5
    go_wp2_with fail
    refine (insert_any v x T X nm _ n W (vat_in HV.out HN.out HOA.out) (vat_in HX.out HN.out HOA.out)).mono ?_
    rintro e w1 ⟨hcase, ho1⟩
    have HW1 := Lib.hid ho1
    have HC2 : Hid (Blk w1 (N + 1 + 1) 25 #[.int .i64 0, .int .i64 0, .int .i64 0, .string ⟨#[]⟩, .slice none 0 0, .slice none 0 0]) := Lib.hid (ho1.blk HB2.out (fun x => x))
    clear ho1 r0 r1 r2 r3 r4 r5 rf0 rf1 rf2 rf3 rf4 rf5
    have r0 : w1.cell? ⟨N + 1 + 1, 0, none⟩ = some (.int .i64 0) := (HC2.out).cell 0
    have rf0 : w1.frozen? ⟨N + 1 + 1, 0, none⟩ = false := (HC2.out).frozen 0
    have r1 : w1.cell? ⟨N + 1 + 1, 1, none⟩ = some (.int .i64 0) := (HC2.out).cell 1
    have rf1 : w1.frozen? ⟨N + 1 + 1, 1, none⟩ = false := (HC2.out).frozen 1
    have r2 : w1.cell? ⟨N + 1 + 1, 2, none⟩ = some (.int .i64 0) := (HC2.out).cell 2
    have rf2 : w1.frozen? ⟨N + 1 + 1, 2, none⟩ = false := (HC2.out).frozen 2
    have r3 : w1.cell? ⟨N + 1 + 1, 3, none⟩ = some (.string ⟨#[]⟩) := (HC2.out).cell 3
    have rf3 : w1.frozen? ⟨N + 1 + 1, 3, none⟩ = false := (HC2.out).frozen 3
    have r4 : w1.cell? ⟨N + 1 + 1, 4, none⟩ = some (.slice none 0 0) := (HC2.out).cell 4
    have rf4 : w1.frozen? ⟨N + 1 + 1, 4, none⟩ = false := (HC2.out).frozen 4
    have r5 : w1.cell? ⟨N + 1 + 1, 5, none⟩ = some (.slice none 0 0) := (HC2.out).cell 5
    have rf5 : w1.frozen? ⟨N + 1 + 1, 5, none⟩ = false := (HC2.out).frozen 5
    rcases hcase with ⟨h64, rfl⟩ | ⟨h64, v', q, hq, rfl, hv'⟩
    · have HPOST : Hid (∀ wE, Only (fun b => b = N + 1 + 1) w1 wE → AddPost S n T ⟨1, i, nm⟩ X w (retV zeroC 9) wE) := Lib.hid fun wE hE => ⟨9, T, .inr (.inl ⟨rfl, h64, rfl⟩), res_err (by omega), (HOA.out.trans HW1.out).trans_more (hE.mono (fun b e => .inr (by rw [HN.out]; omega)))⟩
      unfold retV zeroC
      go_wp2_with fail
      exact bodyPost_ret (v := .tuple #[.agg #[.int .i64 0, .int .i64 0, .int .i64 0, .string ⟨#[]⟩, .slice none 0 0, .slice none 0 0], .int .i64 9]) (by simp [results, Tryd.results31, go_sem, r0, r1, r2, r3, r4, r5]) rfl (HPOST.out _ (by repeat (first | with_reducible exact Only.refl _ _ | with_reducible refine Only.drew ?_ | with_reducible refine Only.alloc ?_ _ | with_reducible refine Only.setCell ?_ (Or.inl ?_) _ | exact rfl | exact Or.inl rfl | exact Or.inr (Or.inl rfl) | exact Or.inr (Or.inr rfl) | exact Or.inr rfl)))
    · have HPOST : Hid (∀ wE, Only (fun b => b = N + 1 + 1) w1 wE → AddPost S n T ⟨1, i, nm⟩ X w (retV v' 0) wE) := Lib.hid fun wE hE => ⟨0, insT T q nm X, .inr (.inr ⟨rfl, h64, rfl, q, hq, rfl⟩), res_ok (vat_new hv' HN.out (by rw [HWS.out]; omega) hE (fun b e => by rw [HWS.out]; omega)), (HOA.out.trans HW1.out).trans_more (hE.mono (fun b e => .inr (by rw [HN.out]; omega)))⟩
      clear hv'
      unfold retV
      go_wp2_with fail
      exact bodyPost_ret (v := .tuple #[.agg #[.int .i64 v'.k, .int .i64 v'.i, .int .i64 v'.s, .string v'.t, .slice v'.la v'.ln v'.lc, .slice v'.fa v'.fn v'.fc], .int .i64 0]) (by simp [results, Tryd.results31, go_sem, r0, r1, r2, r3, r4, r5]) rfl (HPOST.out _ (by repeat (first | with_reducible exact Only.refl _ _ | with_reducible refine Only.drew ?_ | with_reducible refine Only.alloc ?_ _ | with_reducible refine Only.setCell ?_ (Or.inl ?_) _ | exact rfl | exact Or.inl rfl | exact Or.inr (Or.inl rfl) | exact Or.inr (Or.inr rfl) | exact Or.inr rfl)))
  · have hk1 : (k != 1) = true := by simpa using hk
    have HPOST : Hid (∀ wE, Only (fun b => b = N + 1 + 1) W wE → AddPost S n T ⟨k, i, nm⟩ X w (retV zeroC 19) wE) := Lib.hid fun wE hE => ⟨19, T, .inl ⟨hk, rfl⟩, res_err (by omega), HOA.out.trans_more (hE.mono (fun b e => .inr (by rw [HN.out]; omega)))⟩
    have r0 : W.cell? ⟨N + 1 + 1, 0, none⟩ = some (.int .i64 0) := (HB2.out).cell 0
    have rf0 : W.frozen? ⟨N + 1 + 1, 0, none⟩ = false := (HB2.out).frozen 0
    have r1 : W.cell? ⟨N + 1 + 1, 1, none⟩ = some (.int .i64 0) := (HB2.out).cell 1
    have rf1 : W.frozen? ⟨N + 1 + 1, 1, none⟩ = false := (HB2.out).frozen 1
    have r2 : W.cell? ⟨N + 1 + 1, 2, none⟩ = some (.int .i64 0) := (HB2.out).cell 2
    have rf2 : W.frozen? ⟨N + 1 + 1, 2, none⟩ = false := (HB2.out).frozen 2
    have r3 : W.cell? ⟨N + 1 + 1, 3, none⟩ = some (.string ⟨#[]⟩) := (HB2.out).cell 3
    have rf3 : W.frozen? ⟨N + 1 + 1, 3, none⟩ = false := (HB2.out).frozen 3
    have r4 : W.cell? ⟨N + 1 + 1, 4, none⟩ = some (.slice none 0 0) := (HB2.out).cell 4
    have rf4 : W.frozen? ⟨N + 1 + 1, 4, none⟩ = false := (HB2.out).frozen 4
    have r5 : W.cell? ⟨N + 1 + 1, 5, none⟩ = some (.slice none 0 0) := (HB2.out).cell 5
    have rf5 : W.frozen? ⟨N + 1 + 1, 5, none⟩ = false := (HB2.out).frozen 5
    go_wp2_with fail
    exact bodyPost_ret (v := .tuple #[.agg #[.int .i64 0, .int .i64 0, .int .i64 0, .string ⟨#[]⟩, .slice none 0 0, .slice none 0 0], .int .i64 19]) (by simp [results, Tryd.results31, go_sem, r0, r1, r2, r3, r4, r5]) rfl (HPOST.out _ (by repeat (first | with_reducible exact Only.refl _ _ | with_reducible refine Only.drew ?_ | with_reducible refine Only.alloc ?_ _ | with_reducible refine Only.setCell ?_ (Or.inl ?_) _ | exact rfl | exact Or.inl rfl | exact Or.inr (Or.inl rfl) | exact Or.inr (Or.inr rfl) | exact Or.inr rfl)))
set_option maxRecDepth 100000 in
set_option maxHeartbeats 16000000 in
theorem last_any (v x : VC) (T X : VT) (k i : Int) (nm : ByteArray) (S : Nat → Prop) (ba bx n : Nat) (w : World) (hval : validB ⟨k, i, nm⟩ = true) (h3 : (k == 3) = false) (ha : appT ⟨k, i, nm⟩ T = true) (hsz : T.size ≤ 140737488351232) (h : VAt w S (n + 1) v T) (hx : VAt w S n x X) (hba : Blk w ba 66 #[.func (.func 30) #[] #[]]) (hb : Blk w bx 25 #[.int .i64 x.k, .int .i64 x.i, .int .i64 x.s, .string x.t, .slice x.la x.ln x.lc, .slice x.fa x.fn x.fc]) : Calls Tryd.prog 34 #[.agg #[.int .i64 v.k, .int .i64 v.i, .int .i64 v.s, .string v.t, .slice v.la v.ln v.lc, .slice v.fa v.fn v.fc], .agg #[.int .i64 k, .int .i64 i, .string nm], .pointer (some ⟨ba, 0, none⟩), .pointer (some ⟨bx, 0, none⟩)] w (LastPost S n T ⟨k, i, nm⟩ X w) := by
  have HVAL := Lib.hid hval
  have H3 := Lib.hid h3
  have HAP := Lib.hid ha
  have HSZ := Lib.hid hsz
  have HV := Lib.hid h
  have HX := Lib.hid hx
  have HBA := Lib.hid hba
  have HBX := Lib.hid hb
  have hlb := hb.lt
  have hla := hba.lt
  clear h hx hb hba hval h3 ha hsz
  obtain ⟨N, HN⟩ : ∃ N, Hid (w.heap.size = N) := ⟨_, Lib.hid rfl⟩
  obtain ⟨W, HW⟩ : ∃ W, Hid (W = (((w.alloc (.cells #[.int .i64 v.k, .int .i64 v.i, .int .i64 v.s, .string v.t, .slice v.la v.ln v.lc, .slice v.fa v.fn v.fc] 25)).alloc (.cells #[.int .i64 k, .int .i64 i, .string nm] 61)).alloc (.cells #[.int .i64 0, .int .i64 0, .int .i64 0, .string ⟨#[]⟩, .slice none 0 0, .slice none 0 0] 25))) := ⟨_, Lib.hid rfl⟩
  have HOA : Hid (Only Nobody w W) := Lib.hid (by rw [HW.out]; exact (((Only.refl _ _).alloc _).alloc _).alloc _)
  have HB0 : Hid (Blk W (N) 25 #[.int .i64 v.k, .int .i64 v.i, .int .i64 v.s, .string v.t, .slice v.la v.ln v.lc, .slice v.fa v.fn v.fc]) := Lib.hid (by
    have := (Blk.new w 25 #[.int .i64 v.k, .int .i64 v.i, .int .i64 v.s, .string v.t, .slice v.la v.ln v.lc, .slice v.fa v.fn v.fc])
    rw [HW.out, ← HN.out]
    simpa using ((this.alloc (.cells #[.int .i64 k, .int .i64 i, .string nm] 61)).alloc (.cells #[.int .i64 0, .int .i64 0, .int .i64 0, .string ⟨#[]⟩, .slice none 0 0, .slice none 0 0] 25)))
  have HB1 : Hid (Blk W (N + 1) 61 #[.int .i64 k, .int .i64 i, .string nm]) := Lib.hid (by
    have := (Blk.new (w.alloc (.cells #[.int .i64 v.k, .int .i64 v.i, .int .i64 v.s, .string v.t, .slice v.la v.ln v.lc, .slice v.fa v.fn v.fc] 25)) 61 #[.int .i64 k, .int .i64 i, .string nm])
    rw [HW.out, ← HN.out]
    simpa using (this.alloc (.cells #[.int .i64 0, .int .i64 0, .int .i64 0, .string ⟨#[]⟩, .slice none 0 0, .slice none 0 0] 25)))
  have HB2 : Hid (Blk W (N + 1 + 1) 25 #[.int .i64 0, .int .i64 0, .int .i64 0, .string ⟨#[]⟩, .slice none 0 0, .slice none 0 0]) := Lib.hid (by
    have := (Blk.new ((w.alloc (.cells #[.int .i64 v.k, .int .i64 v.i, .int .i64 v.s, .string v.t, .slice v.la v.ln v.lc, .slice v.fa v.fn v.fc] 25)).alloc (.cells #[.int .i64 k, .int .i64 i, .string nm] 61)) 25 #[.int .i64 0, .int .i64 0, .int .i64 0, .string ⟨#[]⟩, .slice none 0 0, .slice none 0 0])
    rw [HW.out, ← HN.out]
    simpa using this)
  have HWS : Hid (W.heap.size = N + 3) := Lib.hid (by rw [HW.out, ← HN.out]; simp)
  go_enter Tryd.func34, Tryd.ntmps34
  go_upto_region 1 with fail
  rw [← HW.out, HN.out]
  have hbN : bx < N := by rw [← HN.out]; exact hlb
  have haN : ba < N := by rw [← HN.out]; exact hla
  have HCX : Hid (∀ w', Only Nobody W w' → Blk w' bx 25 #[.int .i64 x.k, .int .i64 x.i, .int .i64 x.s, .string x.t, .slice x.la x.ln x.lc, .slice x.fa x.fn x.fc]) := Lib.hid fun w' h => (HOA.out.trans h).blk HBX.out (fun x => x)
  have HCA : Hid (∀ w', Only Nobody W w' → Blk w' ba 66 #[.func (.func 30) #[] #[]]) := Lib.hid fun w' h => (HOA.out.trans h).blk HBA.out (fun x => x)
  have b0 : W.cell? ⟨N, 0, none⟩ = some (.int .i64 v.k) := (HB0.out).cell 0
  have b1 : W.cell? ⟨N, 1, none⟩ = some (.int .i64 v.i) := (HB0.out).cell 1
  have b2 : W.cell? ⟨N, 2, none⟩ = some (.int .i64 v.s) := (HB0.out).cell 2
  have b3 : W.cell? ⟨N, 3, none⟩ = some (.string v.t) := (HB0.out).cell 3
  have b4 : W.cell? ⟨N, 4, none⟩ = some (.slice v.la v.ln v.lc) := (HB0.out).cell 4
  have b5 : W.cell? ⟨N, 5, none⟩ = some (.slice v.fa v.fn v.fc) := (HB0.out).cell 5
  have p0 : W.cell? ⟨N + 1, 0, none⟩ = some (.int .i64 k) := (HB1.out).cell 0
  have p1 : W.cell? ⟨N + 1, 1, none⟩ = some (.int .i64 i) := (HB1.out).cell 1
  have p2 : W.cell? ⟨N + 1, 2, none⟩ = some (.string nm) := (HB1.out).cell 2
  go_wp2_with fail
  refine (lead_any k i nm v T (fun b => S b ∧ b < N) (n + 1) HVAL.out HSZ.out W (vat_in HV.out HN.out HOA.out)).mono ?_
  rintro e w1 ⟨A1, m1, c1, V1, rfl, hr1, ha1, ho1⟩
  have hm1 : m1 = (leadL ⟨k, i, nm⟩ T).length := by rw [← hr1.len, ha1.1]
  have HW1 := Lib.hid ho1
  have HO1 := Lib.hid (HOA.out.trans ho1)
  have HC0 : Hid (Blk w1 N 25 #[.int .i64 v.k, .int .i64 v.i, .int .i64 v.s, .string v.t, .slice v.la v.ln v.lc, .slice v.fa v.fn v.fc]) := Lib.hid (ho1.blk HB0.out (fun x => x))
  have HC1 : Hid (Blk w1 (N + 1) 61 #[.int .i64 k, .int .i64 i, .string nm]) := Lib.hid (ho1.blk HB1.out (fun x => x))
  have HC2 : Hid (Blk w1 (N + 1 + 1) 25 #[.int .i64 0, .int .i64 0, .int .i64 0, .string ⟨#[]⟩, .slice none 0 0, .slice none 0 0]) := Lib.hid (ho1.blk HB2.out (fun x => x))
  have HS1 : Hid (N + 3 ≤ w1.heap.size) := Lib.hid (by rw [← HWS.out]; exact ho1.size)
  clear hr1 ha1 ho1 b0 b1 b2 b3 b4 b5 p0 p1 p2
  cases hL : leadL ⟨k, i, nm⟩ T with
  | nil =>
    have hm0 : m1 = 0 := by rw [hm1, hL]; rfl
    subst hm0
    have HL0 := Lib.hid hL
    clear hL hm1
    have HSC : Hid (∀ w', Only (fun b => b = N + 1 + 1) w1 w' → w'.cell? ⟨ba, 0, none⟩ = some (.func (.func 30) #[] #[]) ∧ (w'.cell? ⟨bx, 0, none⟩ = some (.int .i64 x.k) ∧ w'.cell? ⟨bx, 1, none⟩ = some (.int .i64 x.i) ∧ w'.cell? ⟨bx, 2, none⟩ = some (.int .i64 x.s) ∧ w'.cell? ⟨bx, 3, none⟩ = some (.string x.t) ∧ w'.cell? ⟨bx, 4, none⟩ = some (.slice x.la x.ln x.lc) ∧ w'.cell? ⟨bx, 5, none⟩ = some (.slice x.fa x.fn x.fc)) ∧ (w'.cell? ⟨N, 0, none⟩ = some (.int .i64 v.k) ∧ w'.cell? ⟨N, 1, none⟩ = some (.int .i64 v.i) ∧ w'.cell? ⟨N, 2, none⟩ = some (.int .i64 v.s) ∧ w'.cell? ⟨N, 3, none⟩ = some (.string v.t) ∧ w'.cell? ⟨N, 4, none⟩ = some (.slice v.la v.ln v.lc) ∧ w'.cell? ⟨N, 5, none⟩ = some (.slice v.fa v.fn v.fc)) ∧ w'.cell? ⟨N + 1, 0, none⟩ = some (.int .i64 k) ∧ w'.cell? ⟨N + 1, 1, none⟩ = some (.int .i64 i) ∧ w'.cell? ⟨N + 1, 2, none⟩ = some (.string nm)) := Lib.hid fun w' h => by
      have h0 := h.blk HC0.out (by omega)
      have h1 := h.blk HC1.out (by omega)
      have h2 := h.blk (HCX.out w1 HW1.out) (by omega)
      have h3 := h.blk (HCA.out w1 HW1.out) (by omega)
      exact ⟨h3.cell 0, ⟨h2.cell 0, h2.cell 1, h2.cell 2, h2.cell 3, h2.cell 4, h2.cell 5⟩, ⟨h0.cell 0, h0.cell 1, h0.cell 2, h0.cell 3, h0.cell 4, h0.cell 5⟩, h1.cell 0, h1.cell 1, h1.cell 2⟩
    have HOX := Lib.hid (Only.refl Nobody w1)
    have HOXN := Lib.hid (Only.refl (fun b => b = N + 1 + 1) w1)
    go_upto_region 2 with fail
    have hsc := HSC.out w1 HOXN.out
    go_region_held3 (fun w' => w'.cell? ⟨ba, 0, none⟩ = some (.func (.func 30) #[] #[]) ∧ (w'.cell? ⟨bx, 0, none⟩ = some (.int .i64 x.k) ∧ w'.cell? ⟨bx, 1, none⟩ = some (.int .i64 x.i) ∧ w'.cell? ⟨bx, 2, none⟩ = some (.int .i64 x.s) ∧ w'.cell? ⟨bx, 3, none⟩ = some (.string x.t) ∧ w'.cell? ⟨bx, 4, none⟩ = some (.slice x.la x.ln x.lc) ∧ w'.cell? ⟨bx, 5, none⟩ = some (.slice x.fa x.fn x.fc)) ∧ (w'.cell? ⟨N, 0, none⟩ = some (.int .i64 v.k) ∧ w'.cell? ⟨N, 1, none⟩ = some (.int .i64 v.i) ∧ w'.cell? ⟨N, 2, none⟩ = some (.int .i64 v.s) ∧ w'.cell? ⟨N, 3, none⟩ = some (.string v.t) ∧ w'.cell? ⟨N, 4, none⟩ = some (.slice v.la v.ln v.lc) ∧ w'.cell? ⟨N, 5, none⟩ = some (.slice v.fa v.fn v.fc)) ∧ w'.cell? ⟨N + 1, 0, none⟩ = some (.int .i64 k) ∧ w'.cell? ⟨N + 1, 1, none⟩ = some (.int .i64 i) ∧ w'.cell? ⟨N + 1, 2, none⟩ = some (.string nm)) (exact HSC.out _ (by repeat (first | with_reducible exact HOXN.out | with_reducible exact Only.refl _ _ | with_reducible refine Only.drew ?_ | with_reducible refine Only.alloc ?_ _ | with_reducible refine Only.setCell ?_ (Or.inl ?_) _ | exact rfl))) (first
      | (go_at_call 30; refine (set1_any x _).mono ?_; rintro e w3 ⟨⟨b3, rfl, hb3⟩, ho3⟩; have HB3 := Lib.hid hb3; have HOX : Hid (Only Nobody w1 w3) := Lib.hid (Only.trans (by repeat (first | with_reducible exact HOX.out | with_reducible exact Only.refl _ _ | with_reducible refine Only.drew ?_ | with_reducible refine Only.alloc ?_ _ | with_reducible refine Only.setCell ?_ (Or.inr ?_) _)) ho3); have HOXN : Hid (Only (fun b => b = N + 1 + 1) w1 w3) := Lib.hid (HOX.out.mono (fun _ x => x.elim)); clear hb3 ho3)
      | (go_at_call 31; refine (add_any v x T X k i nm (fun b => S b ∧ b < N) b3 n _ ((vat_in HV.out HN.out HOA.out).same (HW1.out.trans (by repeat (first | with_reducible exact HOX.out | with_reducible exact Only.refl _ _ | with_reducible refine Only.drew ?_ | with_reducible refine Only.alloc ?_ _ | with_reducible refine Only.setCell ?_ (Or.inr ?_) _)))) ((vat_in HX.out HN.out HOA.out).same (HW1.out.trans (by repeat (first | with_reducible exact HOX.out | with_reducible exact Only.refl _ _ | with_reducible refine Only.drew ?_ | with_reducible refine Only.alloc ?_ _ | with_reducible refine Only.setCell ?_ (Or.inr ?_) _)))) HB3.out).mono ?_; rintro e w4 ⟨er, T4, hadd, ⟨v5, rfl, hz5, hv5⟩, ho4⟩; unfold retV; have HADD := Lib.hid hadd; have HZ5 := Lib.hid hz5; have HV5 := Lib.hid hv5; have HSZ4 : Hid (N + 3 ≤ w3.heap.size) := Lib.hid (Nat.le_trans HS1.out HOX.out.size); have HOX : Hid (Only Nobody w1 w4) := Lib.hid (Only.trans (by repeat (first | with_reducible exact HOX.out | with_reducible exact Only.refl _ _ | with_reducible refine Only.drew ?_ | with_reducible refine Only.alloc ?_ _ | with_reducible refine Only.setCell ?_ (Or.inr ?_) _)) ho4); have HOXN : Hid (Only (fun b => b = N + 1 + 1) w1 w4) := Lib.hid (HOX.out.mono (fun _ x => x.elim)); have hc2 := HOX.out.blk HC2.out (fun x => x); have r0 : w4.cell? ⟨N + 1 + 1, 0, none⟩ = some (.int .i64 0) := (hc2).cell 0; have rf0 : w4.frozen? ⟨N + 1 + 1, 0, none⟩ = false := (hc2).frozen 0; have r1 : w4.cell? ⟨N + 1 + 1, 1, none⟩ = some (.int .i64 0) := (hc2).cell 1; have rf1 : w4.frozen? ⟨N + 1 + 1, 1, none⟩ = false := (hc2).frozen 1; have r2 : w4.cell? ⟨N + 1 + 1, 2, none⟩ = some (.int .i64 0) := (hc2).cell 2; have rf2 : w4.frozen? ⟨N + 1 + 1, 2, none⟩ = false := (hc2).frozen 2; have r3 : w4.cell? ⟨N + 1 + 1, 3, none⟩ = some (.string ⟨#[]⟩) := (hc2).cell 3; have rf3 : w4.frozen? ⟨N + 1 + 1, 3, none⟩ = false := (hc2).frozen 3; have r4 : w4.cell? ⟨N + 1 + 1, 4, none⟩ = some (.slice none 0 0) := (hc2).cell 4; have rf4 : w4.frozen? ⟨N + 1 + 1, 4, none⟩ = false := (hc2).frozen 4; have r5 : w4.cell? ⟨N + 1 + 1, 5, none⟩ = some (.slice none 0 0) := (hc2).cell 5; have rf5 : w4.frozen? ⟨N + 1 + 1, 5, none⟩ = false := (hc2).frozen 5; clear hadd hz5 hv5 ho4 hc2))
    all_goals
      have HPOST : Hid (∀ wE, Only (fun b => b = N + 1 + 1) w4 wE → LastPost S n T ⟨k, i, nm⟩ X w (retV v5 er) wE) := Lib.hid fun wE hE =>
        ⟨er, T4, .inl ⟨HL0.out, HADD.out⟩, res_new HV5.out HZ5.out HN.out HSZ4.out (by omega) hE (fun b e => by omega), (HO1.out.trans HOX.out).trans_more (hE.mono (fun b e => .inr (by rw [HN.out]; omega)))⟩
      unfold retV at HPOST
      go_wp2_with fail
      exact bodyPost_ret (v := .tuple #[.agg #[.int .i64 v5.k, .int .i64 v5.i, .int .i64 v5.s, .string v5.t, .slice v5.la v5.ln v5.lc, .slice v5.fa v5.fn v5.fc], .int .i64 er]) (by simp [results, Tryd.results34, go_sem, r0, r1, r2, r3, r4, r5]) rfl (HPOST.out _ (by repeat (first | with_reducible exact Only.refl _ _ | with_reducible refine Only.drew ?_ | with_reducible refine Only.alloc ?_ _ | with_reducible refine Only.setCell ?_ (Or.inl ?_) _ | exact rfl | exact Or.inl rfl | exact Or.inr (Or.inl rfl) | exact Or.inr (Or.inr rfl) | exact Or.inr rfl)))
  | cons U rest =>
    have HL0 := Lib.hid hL
    have hmI : ¬ (m1 : Int) = 0 := by rw [hm1, hL]; simp; omega
    have hmB : ((m1 : Int) == 0) = false := by simpa using hmI
    clear hL hm1
    have b0 : w1.cell? ⟨N, 0, none⟩ = some (.int .i64 v.k) := (HC0.out).cell 0
    have b1 : w1.cell? ⟨N, 1, none⟩ = some (.int .i64 v.i) := (HC0.out).cell 1
    have b2 : w1.cell? ⟨N, 2, none⟩ = some (.int .i64 v.s) := (HC0.out).cell 2
    have b3 : w1.cell? ⟨N, 3, none⟩ = some (.string v.t) := (HC0.out).cell 3
    have b4 : w1.cell? ⟨N, 4, none⟩ = some (.slice v.la v.ln v.lc) := (HC0.out).cell 4
    have b5 : w1.cell? ⟨N, 5, none⟩ = some (.slice v.fa v.fn v.fc) := (HC0.out).cell 5
    have p0 : w1.cell? ⟨N + 1, 0, none⟩ = some (.int .i64 k) := (HC1.out).cell 0
    have p1 : w1.cell? ⟨N + 1, 1, none⟩ = some (.int .i64 i) := (HC1.out).cell 1
    have p2 : w1.cell? ⟨N + 1, 2, none⟩ = some (.string nm) := (HC1.out).cell 2
    have x0 : w1.cell? ⟨bx, 0, none⟩ = some (.int .i64 x.k) := ((HCX.out w1 HW1.out)).cell 0
    have x1 : w1.cell? ⟨bx, 1, none⟩ = some (.int .i64 x.i) := ((HCX.out w1 HW1.out)).cell 1
    have x2 : w1.cell? ⟨bx, 2, none⟩ = some (.int .i64 x.s) := ((HCX.out w1 HW1.out)).cell 2
    have x3 : w1.cell? ⟨bx, 3, none⟩ = some (.string x.t) := ((HCX.out w1 HW1.out)).cell 3
    have x4 : w1.cell? ⟨bx, 4, none⟩ = some (.slice x.la x.ln x.lc) := ((HCX.out w1 HW1.out)).cell 4
    have x5 : w1.cell? ⟨bx, 5, none⟩ = some (.slice x.fa x.fn x.fc) := ((HCX.out w1 HW1.out)).cell 5
    have r0 : w1.cell? ⟨N + 1 + 1, 0, none⟩ = some (.int .i64 0) := (HC2.out).cell 0
    have rf0 : w1.frozen? ⟨N + 1 + 1, 0, none⟩ = false := (HC2.out).frozen 0
    have r1 : w1.cell? ⟨N + 1 + 1, 1, none⟩ = some (.int .i64 0) := (HC2.out).cell 1
    have rf1 : w1.frozen? ⟨N + 1 + 1, 1, none⟩ = false := (HC2.out).frozen 1
    have r2 : w1.cell? ⟨N + 1 + 1, 2, none⟩ = some (.int .i64 0) := (HC2.out).cell 2
    have rf2 : w1.frozen? ⟨N + 1 + 1, 2, none⟩ = false := (HC2.out).frozen 2
    have r3 : w1.cell? ⟨N + 1 + 1, 3, none⟩ = some (.string ⟨#[]⟩) := (HC2.out).cell 3
    have rf3 : w1.frozen? ⟨N + 1 + 1, 3, none⟩ = false := (HC2.out).frozen 3
    have r4 : w1.cell? ⟨N + 1 + 1, 4, none⟩ = some (.slice none 0 0) := (HC2.out).cell 4
    have rf4 : w1.frozen? ⟨N + 1 + 1, 4, none⟩ = false := (HC2.out).frozen 4
    have r5 : w1.cell? ⟨N + 1 + 1, 5, none⟩ = some (.slice none 0 0) := (HC2.out).cell 5
    have rf5 : w1.frozen? ⟨N + 1 + 1, 5, none⟩ = false := (HC2.out).frozen 5
    go_wp2_with fail
    refine (rep_any v x T X U rest k i nm (fun b => S b ∧ b < N) n w1 ((vat_in HV.out HN.out HOA.out).same HW1.out) ((vat_in HX.out HN.out HOA.out).same HW1.out) HVAL.out H3.out HAP.out HL0.out HSZ.out).mono ?_
    rintro e w4 ⟨v', rfl, hv', ho4⟩
    have HC24 : Hid (Blk w4 (N + 1 + 1) 25 #[.int .i64 0, .int .i64 0, .int .i64 0, .string ⟨#[]⟩, .slice none 0 0, .slice none 0 0]) := Lib.hid (ho4.blk HC2.out (fun x => x))
    have HPOST : Hid (∀ wE, Only (fun b => b = N + 1 + 1) w4 wE → LastPost S n T ⟨k, i, nm⟩ X w (retV v' 0) wE) := Lib.hid fun wE hE =>
      ⟨0, _, .inr ⟨by rw [HL0.out]; simp, rfl, rfl⟩, res_ok (vat_new2 hv' HN.out HS1.out (by omega) hE (fun b e => by omega)), (HO1.out.trans ho4).trans_more (hE.mono (fun b e => .inr (by rw [HN.out]; omega)))⟩
    clear hv' ho4 r0 r1 r2 r3 r4 r5 rf0 rf1 rf2 rf3 rf4 rf5
    have r0 : w4.cell? ⟨N + 1 + 1, 0, none⟩ = some (.int .i64 0) := (HC24.out).cell 0
    have rf0 : w4.frozen? ⟨N + 1 + 1, 0, none⟩ = false := (HC24.out).frozen 0
    have r1 : w4.cell? ⟨N + 1 + 1, 1, none⟩ = some (.int .i64 0) := (HC24.out).cell 1
    have rf1 : w4.frozen? ⟨N + 1 + 1, 1, none⟩ = false := (HC24.out).frozen 1
    have r2 : w4.cell? ⟨N + 1 + 1, 2, none⟩ = some (.int .i64 0) := (HC24.out).cell 2
    have rf2 : w4.frozen? ⟨N + 1 + 1, 2, none⟩ = false := (HC24.out).frozen 2
    have r3 : w4.cell? ⟨N + 1 + 1, 3, none⟩ = some (.string ⟨#[]⟩) := (HC24.out).cell 3
    have rf3 : w4.frozen? ⟨N + 1 + 1, 3, none⟩ = false := (HC24.out).frozen 3
    have r4 : w4.cell? ⟨N + 1 + 1, 4, none⟩ = some (.slice none 0 0) := (HC24.out).cell 4
    have rf4 : w4.frozen? ⟨N + 1 + 1, 4, none⟩ = false := (HC24.out).frozen 4
    have r5 : w4.cell? ⟨N + 1 + 1, 5, none⟩ = some (.slice none 0 0) := (HC24.out).cell 5
    have rf5 : w4.frozen? ⟨N + 1 + 1, 5, none⟩ = false := (HC24.out).frozen 5
    unfold retV at HPOST
    go_wp2_with fail
    exact bodyPost_ret (v := .tuple #[.agg #[.int .i64 v'.k, .int .i64 v'.i, .int .i64 v'.s, .string v'.t, .slice v'.la v'.ln v'.lc, .slice v'.fa v'.fn v'.fc], .int .i64 0]) (by simp [results, Tryd.results34, go_sem, r0, r1, r2, r3, r4, r5]) rfl (HPOST.out _ (by repeat (first | with_reducible exact Only.refl _ _ | with_reducible refine Only.drew ?_ | with_reducible refine Only.alloc ?_ _ | with_reducible refine Only.setCell ?_ (Or.inl ?_) _ | exact rfl | exact Or.inl rfl | exact Or.inr (Or.inl rfl) | exact Or.inr (Or.inr rfl) | exact Or.inr rfl)))
end Go.Proofs.YtdccckoelnnnoaaDoor
