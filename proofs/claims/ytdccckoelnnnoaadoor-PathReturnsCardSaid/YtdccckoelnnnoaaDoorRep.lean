/- path.replace: a field's value, or a list's element, put in place of another. -/
import Derived.Test.YtdccckoelnnnoaaDoorInB
namespace Go.Proofs.YtdccckoelnnnoaaDoor
open Go.RowKit
attribute [local go_sem ↓] Go.wp_at_zero Go.wp_at_succ

/-- Six cells of a block, one behind the other. -/
def set6 (cur : Array Value) (o : Nat) (a b c d e f : Value) : Array Value := (((((cur.setIfInBounds o a).setIfInBounds (o + 1) b).setIfInBounds (o + 2) c).setIfInBounds (o + 3) d).setIfInBounds (o + 4) e).setIfInBounds (o + 5) f
section
variable {cur : Array Value} {o : Nat} {a b c d e f : Value}
theorem set6_size : (set6 cur o a b c d e f).size = cur.size := by simp [set6]
theorem set6_out {j : Nat} (h : j < o ∨ o + 6 ≤ j) : (set6 cur o a b c d e f)[j]? = cur[j]? := by
  unfold set6
  rw [Array.getElem?_setIfInBounds_ne (by omega), Array.getElem?_setIfInBounds_ne (by omega), Array.getElem?_setIfInBounds_ne (by omega), Array.getElem?_setIfInBounds_ne (by omega), Array.getElem?_setIfInBounds_ne (by omega), Array.getElem?_setIfInBounds_ne (by omega)]
theorem set6_in {r : Nat} {u : Value} (hs : o + 6 ≤ cur.size) (h : [a, b, c, d, e, f][r]? = some u) : (set6 cur o a b c d e f)[o + r]? = some u := by
  have hr : r < 6 := by have := (List.getElem?_eq_some_iff.1 h).1; simpa using this
  unfold set6
  obtain rfl | rfl | rfl | rfl | rfl | rfl : r = 0 ∨ r = 1 ∨ r = 2 ∨ r = 3 ∨ r = 4 ∨ r = 5 := by omega
  all_goals
    simp at h
    subst h
    simp [Array.getElem?_setIfInBounds]
    omega
theorem set6_blk {w : World} {g : Nat} {t : TypeId} (h : Blk w g t cur) : Blk ((((((w.setCell ⟨g, o, none⟩ a).setCell ⟨g, o + 1, none⟩ b).setCell ⟨g, o + 2, none⟩ c).setCell ⟨g, o + 3, none⟩ d).setCell ⟨g, o + 4, none⟩ e).setCell ⟨g, o + 5, none⟩ f) g t (set6 cur o a b c d e f) :=
  (((((h.set_ o a).set_ (o + 1) b).set_ (o + 2) c).set_ (o + 3) d).set_ (o + 4) e).set_ (o + 5) f
end
/-- A row out of a block's cells. -/
theorem RowA.of_blk {α : Type} {g : α → List Value} {k : Nat} (hg : ∀ a, (g a).length = k) {w : World} {b : Nat} {t : TypeId} {cur : Array Value} {n : Nat} {L : List α} {S : Nat → Prop} (hb : Blk w b t cur) (hl : L.length = n) (hc : ∀ (j : Nat) (u : Value), (cells g L)[j]? = some u → cur[j]? = some u) (hS : S b) : RowA g k w S (some ⟨b, 0, none⟩) n L := by
  refine ⟨⟨by rw [cells_length hg, hl], fun _ => ⟨⟨b, 0, none⟩, rfl, hb.lt, fun j u hu => ?_⟩⟩, hl, fun _ ad e => by injection e with e; rw [← e]; exact hS⟩
  rw [Addr.add_lit, Nat.zero_add, hb.cell j]
  exact hc j u hu
theorem cells_at {α : Type} {g : α → List Value} {k : Nat} (hg : ∀ a, (g a).length = k) (hk : 0 < k) {L : List α} {j : Nat} {u : Value} (h : (cells g L)[j]? = some u) : ∃ o, L[j / k]? = some o ∧ (g o)[j % k]? = some u := by
  have hj : j < (cells g L).length := (List.getElem?_eq_some_iff.1 h).1
  rw [cells_length hg] at hj
  have hi : j / k < L.length := Nat.div_lt_of_lt_mul (by rw [Nat.mul_comm]; exact hj)
  have ho : L[j / k]? = some L[j / k] := List.getElem?_eq_getElem hi
  have hr : j % k < (g L[j / k]).length := by rw [hg]; exact Nat.mod_lt _ hk
  refine ⟨_, ho, ?_⟩
  have h2 := cells_get hg L (j / k) _ ho (j % k) _ (List.getElem?_eq_getElem hr)
  rw [show j / k * k + j % k = j by rw [Nat.mul_comm]; exact Nat.div_add_mod j k, h] at h2
  rw [h2]
  exact List.getElem?_eq_getElem hr
theorem cur_of {cur : Array Value} {xs : List Value} {j k : Nat} {u : Value} (h : cur.toList.take k = xs) (hu : xs[j]? = some u) : cur[j]? = some u := by
  rw [← h] at hu
  rw [← Array.getElem?_toList]
  have hj : j < k := by
    have := (List.getElem?_eq_some_iff.1 hu).1
    rw [List.length_take] at this
    omega
  rw [List.getElem?_take_of_lt hj] at hu
  exact hu
theorem own_blk {α : Type} {g : α → List Value} {k : Nat} {w : World} {base n c : Nat} {e : TypeId} {A : Option Addr} {L : List α} (h : w.ownsRow base e k (.slice A n c) n (cells g L)) (hn : 0 < n) : ∃ b cur, A = some ⟨b, 0, none⟩ ∧ base ≤ b ∧ Blk w b e cur ∧ (∀ (j : Nat) (u : Value), (cells g L)[j]? = some u → cur[j]? = some u) ∧ cur.size = c * k ∧ n ≤ c := by
  rcases h.2 with ⟨_, h0⟩ | ⟨b, cap, cur, hv, hb, hg, hc, hm, hs, ht⟩
  · omega
  · injection hv with h1 h2 h3
    subst h1 h3
    exact ⟨b, cur, rfl, hb, hg, fun j u hu => cur_of ht hu, hs, hc⟩
def setLT (T : VT) (q : Nat) (X : VT) : VT := .mk T.k T.i T.s T.t (T.l.set q X) T.f
def setFT (T : VT) (q : Nat) (X : VT) : VT := .mk T.k T.i T.s T.t T.l (T.f.set q (((T.f[q]?).map (·.1)).getD ⟨#[]⟩, X))
/-- A value that reads as a tree. -/
def RepPost (S : Nat → Prop) (n : Nat) (T : VT) (w : World) (e : Ending) (w' : World) : Prop := ∃ v : VC, e = .returned (.agg #[.int .i64 v.k, .int .i64 v.i, .int .i64 v.s, .string v.t, .slice v.la v.ln v.lc, .slice v.fa v.fn v.fc]) ∧ VAt w' (NewS S w) (n + 1) v T ∧ Only Nobody w w'
theorem own_cell6 {w : World} {g : Nat} {t : TypeId} {cur : Array Value} {V : List VC} {n q j : Nat} (hb : Blk w g t cur) (hc : ∀ (j : Nat) (u : Value), (cells VC.vals V)[j]? = some u → cur[j]? = some u) (hq : q < n) (hl : V.length = n) (hj : j < 6) : ∃ u, w.cell? ⟨g, q * 6 + j, none⟩ = some u := by
  have hx : V[q]? = some V[q] := List.getElem?_eq_getElem (by omega)
  have hr : j < (V[q]).vals.length := by rw [vlen]; exact hj
  exact ⟨_, (hb.cell _).trans (hc _ _ (cells_get vlen V q _ hx j _ (List.getElem?_eq_getElem hr)))⟩
theorem All2.set {α β : Type} {R : α → β → Prop} {A : List α} {B : List β} {a : α} {b : β} (h : All2 R A B) (q : Nat) (hr : R a b) : All2 R (A.set q a) (B.set q b) := by
  refine ⟨by simp [h.1], fun j x y h1 h2 => ?_⟩
  have hj : j < A.length := by have := (List.getElem?_eq_some_iff.1 h1).1; simpa using this
  by_cases e : q = j
  · subst e
    rw [List.getElem?_set_self hj] at h1
    rw [List.getElem?_set_self (by rw [← h.1]; exact hj)] at h2
    cases h1; cases h2
    exact hr
  · rw [List.getElem?_set_ne e] at h1 h2
    exact h.2 j x y h1 h2
theorem vat_low {S : Nat → Prop} {w wE : World} {N n : Nat} {p : VC} {Y : VT} (h : VAt w S n p Y) (hN : w.heap.size = N) (hO : Only (fun b => N ≤ b) w wE) : VAt wE (NewS S w) n p Y :=
  ((h.mono (S' := fun b => S b ∧ b < N) (fun b hb hs => ⟨hs, by omega⟩)).keep hO (fun b hb e => by have := hb.2; omega)).mono (fun b _ hb => .inl hb.1)
theorem row_keep {S : Nat → Prop} {α : Type} {g : α → List Value} {k : Nat} {w wE : World} {N n : Nat} {A : Option Addr} {L : List α} (h : RowA g k w S A n L) (hN : w.heap.size = N) (hO : Only (fun b => N ≤ b) w wE) : RowA g k wE (NewS S w) A n L :=
  ((h.mono (S' := fun b => S b ∧ b < N) (fun b hb hs => ⟨hs, by omega⟩)).keep hO (fun b hb e => by have := hb.2; omega)).mono (fun b _ hb => .inl hb.1)
theorem repL_post {S : Nat → Prop} {n N q g c1 : Nat} {T X : VT} {v x : VC} {V : List VC} {w wE : World} {cur : Array Value} (hN : w.heap.size = N) (hg : N ≤ g) (heq : v.k = T.k ∧ v.i = T.i ∧ v.s = T.s ∧ v.t = T.t ∧ v.ln ≤ v.lc ∧ v.fn ≤ v.fc)
    (hV : V.length = v.ln) (hA : All2 (VAt w S n) V T.l) (hF : ∃ F, RowA FC.vals 7 w S v.fa v.fn F ∧ All2 (fun c x => c.n = x.1 ∧ VAt w S n c.v x.2) F T.f) (hx : VAt w S n x X) (hq : q < v.ln) (hnc : v.ln ≤ c1)
    (hcur : ∀ (j : Nat) (u : Value), (cells VC.vals V)[j]? = some u → cur[j]? = some u) (hcs : cur.size = c1 * 6)
    (hb : Blk wE g 25 (set6 cur (q * 6) (.int .i64 x.k) (.int .i64 x.i) (.int .i64 x.s) (.string x.t) (.slice x.la x.ln x.lc) (.slice x.fa x.fn x.fc))) (hO : Only (fun b => N ≤ b) w wE) :
    RepPost S n (setLT T q X) w (.returned (.agg #[.int .i64 v.k, .int .i64 v.i, .int .i64 v.s, .string v.t, .slice (some ⟨g, 0, none⟩) v.ln c1, .slice v.fa v.fn v.fc])) wE := by
  obtain ⟨F, hF1, hF2⟩ := hF
  refine ⟨⟨v.k, v.i, v.s, v.t, some ⟨g, 0, none⟩, v.ln, c1, v.fa, v.fn, v.fc⟩, rfl, ⟨⟨heq.1, heq.2.1, heq.2.2.1, heq.2.2.2.1, hnc, heq.2.2.2.2.2⟩, ⟨V.set q x, RowA.of_blk vlen hb (by simp [hV]) ?_ (.inr (by rw [hN]; exact hg)), (hA.imp fun _ _ h => vat_low h hN hO).set q (vat_low hx hN hO)⟩, ⟨F, row_keep hF1 hN hO, hF2.imp fun _ _ h => ⟨h.1, vat_low h.2 hN hO⟩⟩⟩, hO.mono_lt (fun b hb e => by omega)⟩
  intro j u hu
  obtain ⟨o, h1, h2⟩ := cells_at vlen (by omega) hu
  by_cases e : q = j / 6
  · rw [← e, List.getElem?_set_self (by omega)] at h1
    cases h1
    have := set6_in (cur := cur) (o := q * 6) (r := j % 6) (by omega) h2
    rwa [show q * 6 + j % 6 = j by omega] at this
  · rw [List.getElem?_set_ne e] at h1
    rw [set6_out (by omega)]
    have h3 := cells_get vlen V (j / 6) o h1 (j % 6) u h2
    rw [show j / 6 * 6 + j % 6 = j by omega] at h3
    exact hcur j u h3
theorem own_cell7 {w : World} {g : Nat} {t : TypeId} {cur : Array Value} {V : List FC} {n q j : Nat} (hb : Blk w g t cur) (hc : ∀ (j : Nat) (u : Value), (cells FC.vals V)[j]? = some u → cur[j]? = some u) (hq : q < n) (hl : V.length = n) (hj : j < 7) : ∃ u, w.cell? ⟨g, q * 7 + j, none⟩ = some u := by
  have hx : V[q]? = some V[q] := List.getElem?_eq_getElem (by omega)
  have hr : j < (V[q]).vals.length := by rw [flen]; exact hj
  exact ⟨_, (hb.cell _).trans (hc _ _ (cells_get flen V q _ hx j _ (List.getElem?_eq_getElem hr)))⟩
theorem repF_post {S : Nat → Prop} {n N q g c1 : Nat} {T X : VT} {v x : VC} {F : List FC} {w wE : World} {cur : Array Value} (hN : w.heap.size = N) (hg : N ≤ g) (heq : v.k = T.k ∧ v.i = T.i ∧ v.s = T.s ∧ v.t = T.t ∧ v.ln ≤ v.lc ∧ v.fn ≤ v.fc)
    (hF : F.length = v.fn) (hB : All2 (fun c x => c.n = x.1 ∧ VAt w S n c.v x.2) F T.f) (hL : ∃ V, RowA VC.vals 6 w S v.la v.ln V ∧ All2 (VAt w S n) V T.l) (hx : VAt w S n x X) (hq : q < v.fn) (hnc : v.fn ≤ c1)
    (hcur : ∀ (j : Nat) (u : Value), (cells FC.vals F)[j]? = some u → cur[j]? = some u) (hcs : cur.size = c1 * 7)
    (hb : Blk wE g 72 (set6 cur (q * 7 + 1) (.int .i64 x.k) (.int .i64 x.i) (.int .i64 x.s) (.string x.t) (.slice x.la x.ln x.lc) (.slice x.fa x.fn x.fc))) (hO : Only (fun b => N ≤ b) w wE) :
    RepPost S n (setFT T q X) w (.returned (.agg #[.int .i64 v.k, .int .i64 v.i, .int .i64 v.s, .string v.t, .slice v.la v.ln v.lc, .slice (some ⟨g, 0, none⟩) v.fn c1])) wE := by
  obtain ⟨V, hV1, hV2⟩ := hL
  have hqF : F[q]? = some F[q] := List.getElem?_eq_getElem (by omega)
  obtain ⟨y, hy, hny, _⟩ := hB.get hqF
  have hnm : ((T.f[q]?).map (·.1)).getD ⟨#[]⟩ = (F[q]).n := by rw [hy, hny]; rfl
  refine ⟨⟨v.k, v.i, v.s, v.t, v.la, v.ln, v.lc, some ⟨g, 0, none⟩, v.fn, c1⟩, rfl, ⟨⟨heq.1, heq.2.1, heq.2.2.1, heq.2.2.2.1, heq.2.2.2.2.1, hnc⟩, ⟨V, row_keep hV1 hN hO, hV2.imp fun _ _ h => vat_low h hN hO⟩, ⟨F.set q ⟨(F[q]).n, x⟩, RowA.of_blk flen hb (by simp [hF]) ?_ (.inr (by rw [hN]; exact hg)), ?_⟩⟩, hO.mono_lt (fun b hb e => by omega)⟩
  · intro j u hu
    obtain ⟨o, h1, h2⟩ := cells_at flen (by omega) hu
    by_cases e : q = j / 7
    · rw [← e, List.getElem?_set_self (by omega)] at h1
      cases h1
      by_cases e0 : j % 7 = 0
      · rw [e0] at h2
        rw [set6_out (by omega)]
        have h3 := cells_get flen F q _ hqF 0 u (by simpa [FC.vals] using h2)
        rw [show q * 7 + 0 = j by omega] at h3
        exact hcur j u h3
      · obtain ⟨r, hr⟩ : ∃ r, j % 7 = r + 1 := ⟨j % 7 - 1, by omega⟩
        rw [hr] at h2
        have := set6_in (cur := cur) (o := q * 7 + 1) (r := r) (u := u) (a := .int .i64 x.k) (b := .int .i64 x.i) (c := .int .i64 x.s) (d := .string x.t) (e := .slice x.la x.ln x.lc) (f := .slice x.fa x.fn x.fc) (by omega) (by simpa [FC.vals, VC.vals] using h2)
        rwa [show q * 7 + 1 + r = j by omega] at this
    · rw [List.getElem?_set_ne e] at h1
      rw [set6_out (by omega)]
      have h3 := cells_get flen F (j / 7) o h1 (j % 7) u h2
      rw [show j / 7 * 7 + j % 7 = j by omega] at h3
      exact hcur j u h3
  · rw [show (setFT T q X).f = T.f.set q ((F[q]).n, X) by unfold setFT; rw [hnm]; rfl]
    exact (hB.imp fun _ _ h => ⟨h.1, vat_low h.2 hN hO⟩).set q ⟨rfl, vat_low hx hN hO⟩
theorem FiPost_eq {f : List (ByteArray × VT)} {m : ByteArray} {w : World} {z : Int} (h : fieldI f m = z) : FiPost f m w = fun e w' => e = .returned (.int .i64 z) ∧ Only Nobody w w' := by
  unfold FiPost
  rw [h]

set_option maxRecDepth 100000 in
set_option maxHeartbeats 8000000 in
theorem replaceL_any (v x : VC) (T X : VT) (k : Int) (q : Nat) (nm : ByteArray) (S : Nat → Prop) (n : Nat) (w : World) (h : VAt w S (n + 1) v T) (hx : VAt w S n x X) (hk : k ≠ 1) (hq : q < T.l.length) (hsz : v.ln ≤ 1599289640355) : Calls Tryd.prog 36 #[.agg #[.int .i64 v.k, .int .i64 v.i, .int .i64 v.s, .string v.t, .slice v.la v.ln v.lc, .slice v.fa v.fn v.fc], .agg #[.int .i64 k, .int .i64 (q : Int), .string nm], .agg #[.int .i64 x.k, .int .i64 x.i, .int .i64 x.s, .string x.t, .slice x.la x.ln x.lc, .slice x.fa x.fn x.fc]] w (RepPost S n (setLT T q X) w) := by
  have HX := Lib.hid hx
  obtain ⟨heq, ⟨V, hV, hA⟩, hF⟩ := h
  have HEQ := Lib.hid heq
  have HF := Lib.hid hF
  have HA := Lib.hid hA
  have HV := Lib.hid hV
  have hqn : q < v.ln := by rw [← hV.len, hA.1]; exact hq
  clear hx hF heq hV hA
  obtain ⟨N, HN⟩ : ∃ N, Hid (w.heap.size = N) := ⟨_, Lib.hid rfl⟩
  obtain ⟨W, HW⟩ : ∃ W, Hid (W = ((((w.alloc (.cells #[.int .i64 v.k, .int .i64 v.i, .int .i64 v.s, .string v.t, .slice v.la v.ln v.lc, .slice v.fa v.fn v.fc] 25)).alloc (.cells #[.int .i64 k, .int .i64 (q : Int), .string nm] 61)).alloc (.cells #[.int .i64 x.k, .int .i64 x.i, .int .i64 x.s, .string x.t, .slice x.la x.ln x.lc, .slice x.fa x.fn x.fc] 25)).alloc (.cells #[.int .i64 0, .int .i64 0, .int .i64 0, .string ⟨#[]⟩, .slice none 0 0, .slice none 0 0] 25))) := ⟨_, Lib.hid rfl⟩
  have HOA : Hid (Only Nobody w W) := Lib.hid (by rw [HW.out]; exact ((((Only.refl _ _).alloc _).alloc _).alloc _).alloc _)
  have HB0 : Hid (Blk W N 25 #[.int .i64 v.k, .int .i64 v.i, .int .i64 v.s, .string v.t, .slice v.la v.ln v.lc, .slice v.fa v.fn v.fc]) := Lib.hid (by rw [HW.out, ← HN.out]; exact (((Blk.new _ _ _).alloc _).alloc _).alloc _)
  have HB1 : Hid (Blk W (N + 1) 61 #[.int .i64 k, .int .i64 (q : Int), .string nm]) := Lib.hid (by
    have := (Blk.new (w.alloc (.cells #[.int .i64 v.k, .int .i64 v.i, .int .i64 v.s, .string v.t, .slice v.la v.ln v.lc, .slice v.fa v.fn v.fc] 25)) 61 #[.int .i64 k, .int .i64 (q : Int), .string nm])
    rw [HW.out, ← HN.out]
    simpa using (this.alloc (.cells #[.int .i64 x.k, .int .i64 x.i, .int .i64 x.s, .string x.t, .slice x.la x.ln x.lc, .slice x.fa x.fn x.fc] 25)).alloc (.cells #[.int .i64 0, .int .i64 0, .int .i64 0, .string ⟨#[]⟩, .slice none 0 0, .slice none 0 0] 25))
  have HB2 : Hid (Blk W (N + 1 + 1) 25 #[.int .i64 x.k, .int .i64 x.i, .int .i64 x.s, .string x.t, .slice x.la x.ln x.lc, .slice x.fa x.fn x.fc]) := Lib.hid (by
    have := (Blk.new ((w.alloc (.cells #[.int .i64 v.k, .int .i64 v.i, .int .i64 v.s, .string v.t, .slice v.la v.ln v.lc, .slice v.fa v.fn v.fc] 25)).alloc (.cells #[.int .i64 k, .int .i64 (q : Int), .string nm] 61)) 25 #[.int .i64 x.k, .int .i64 x.i, .int .i64 x.s, .string x.t, .slice x.la x.ln x.lc, .slice x.fa x.fn x.fc])
    rw [HW.out, ← HN.out]
    simpa using this.alloc (.cells #[.int .i64 0, .int .i64 0, .int .i64 0, .string ⟨#[]⟩, .slice none 0 0, .slice none 0 0] 25))
  have HB3 : Hid (Blk W (N + 1 + 1 + 1) 25 #[.int .i64 0, .int .i64 0, .int .i64 0, .string ⟨#[]⟩, .slice none 0 0, .slice none 0 0]) := Lib.hid (by
    have := (Blk.new (((w.alloc (.cells #[.int .i64 v.k, .int .i64 v.i, .int .i64 v.s, .string v.t, .slice v.la v.ln v.lc, .slice v.fa v.fn v.fc] 25)).alloc (.cells #[.int .i64 k, .int .i64 (q : Int), .string nm] 61)).alloc (.cells #[.int .i64 x.k, .int .i64 x.i, .int .i64 x.s, .string x.t, .slice x.la x.ln x.lc, .slice x.fa x.fn x.fc] 25)) 25 #[.int .i64 0, .int .i64 0, .int .i64 0, .string ⟨#[]⟩, .slice none 0 0, .slice none 0 0])
    rw [HW.out, ← HN.out]
    simpa using this)
  have HWS : Hid (W.heap.size = N + 4) := Lib.hid (by rw [HW.out, ← HN.out]; simp)
  go_enter Tryd.func36, Tryd.ntmps36
  go_upto_region 1 with fail
  rw [← HW.out, HN.out]
  have hk1 : (k == 1) = false := by simpa using hk
  have b0 : W.cell? ⟨N, 0, none⟩ = some (.int .i64 v.k) := (HB0.out).cell 0
  have bf0 : W.frozen? ⟨N, 0, none⟩ = false := (HB0.out).frozen 0
  have b1 : W.cell? ⟨N, 1, none⟩ = some (.int .i64 v.i) := (HB0.out).cell 1
  have bf1 : W.frozen? ⟨N, 1, none⟩ = false := (HB0.out).frozen 1
  have b2 : W.cell? ⟨N, 2, none⟩ = some (.int .i64 v.s) := (HB0.out).cell 2
  have bf2 : W.frozen? ⟨N, 2, none⟩ = false := (HB0.out).frozen 2
  have b3 : W.cell? ⟨N, 3, none⟩ = some (.string v.t) := (HB0.out).cell 3
  have bf3 : W.frozen? ⟨N, 3, none⟩ = false := (HB0.out).frozen 3
  have b4 : W.cell? ⟨N, 4, none⟩ = some (.slice v.la v.ln v.lc) := (HB0.out).cell 4
  have bf4 : W.frozen? ⟨N, 4, none⟩ = false := (HB0.out).frozen 4
  have b5 : W.cell? ⟨N, 5, none⟩ = some (.slice v.fa v.fn v.fc) := (HB0.out).cell 5
  have bf5 : W.frozen? ⟨N, 5, none⟩ = false := (HB0.out).frozen 5
  have r0 : W.cell? ⟨N + 1 + 1 + 1, 0, none⟩ = some (.int .i64 0) := (HB3.out).cell 0
  have rf0 : W.frozen? ⟨N + 1 + 1 + 1, 0, none⟩ = false := (HB3.out).frozen 0
  have r1 : W.cell? ⟨N + 1 + 1 + 1, 1, none⟩ = some (.int .i64 0) := (HB3.out).cell 1
  have rf1 : W.frozen? ⟨N + 1 + 1 + 1, 1, none⟩ = false := (HB3.out).frozen 1
  have r2 : W.cell? ⟨N + 1 + 1 + 1, 2, none⟩ = some (.int .i64 0) := (HB3.out).cell 2
  have rf2 : W.frozen? ⟨N + 1 + 1 + 1, 2, none⟩ = false := (HB3.out).frozen 2
  have r3 : W.cell? ⟨N + 1 + 1 + 1, 3, none⟩ = some (.string ⟨#[]⟩) := (HB3.out).cell 3
  have rf3 : W.frozen? ⟨N + 1 + 1 + 1, 3, none⟩ = false := (HB3.out).frozen 3
  have r4 : W.cell? ⟨N + 1 + 1 + 1, 4, none⟩ = some (.slice none 0 0) := (HB3.out).cell 4
  have rf4 : W.frozen? ⟨N + 1 + 1 + 1, 4, none⟩ = false := (HB3.out).frozen 4
  have r5 : W.cell? ⟨N + 1 + 1 + 1, 5, none⟩ = some (.slice none 0 0) := (HB3.out).cell 5
  have rf5 : W.frozen? ⟨N + 1 + 1 + 1, 5, none⟩ = false := (HB3.out).frozen 5
  have p0 : W.cell? ⟨N + 1, 0, none⟩ = some (.int .i64 k) := (HB1.out).cell 0
  have p1 : W.cell? ⟨N + 1, 1, none⟩ = some (.int .i64 (q : Int)) := (HB1.out).cell 1
  have p2 : W.cell? ⟨N + 1, 2, none⟩ = some (.string nm) := (HB1.out).cell 2
  go_wp2_with fail
  refine (clonev_any v.la v.ln v.lc V S W (HV.out.same HOA.out) hsz).mono ?_
  rintro e w1 ⟨A1, c1, rfl, hown1, ho1⟩
  obtain ⟨g, cur, rfl, hgW, hgk, hcur, hcs, hnc⟩ := own_blk hown1 (by omega)
  have HGW := Lib.hid hgW
  have HGK := Lib.hid hgk
  have HCUR := Lib.hid hcur
  have HW1 := Lib.hid ho1
  have HC0 : Hid (Blk w1 N 25 #[.int .i64 v.k, .int .i64 v.i, .int .i64 v.s, .string v.t, .slice v.la v.ln v.lc, .slice v.fa v.fn v.fc]) := Lib.hid (ho1.blk HB0.out (fun x => x))
  have HC1 : Hid (Blk w1 (N + 1) 61 #[.int .i64 k, .int .i64 (q : Int), .string nm]) := Lib.hid (ho1.blk HB1.out (fun x => x))
  have HC2 : Hid (Blk w1 (N + 1 + 1) 25 #[.int .i64 x.k, .int .i64 x.i, .int .i64 x.s, .string x.t, .slice x.la x.ln x.lc, .slice x.fa x.fn x.fc]) := Lib.hid (ho1.blk HB2.out (fun x => x))
  have HC3 : Hid (Blk w1 (N + 1 + 1 + 1) 25 #[.int .i64 0, .int .i64 0, .int .i64 0, .string ⟨#[]⟩, .slice none 0 0, .slice none 0 0]) := Lib.hid (ho1.blk HB3.out (fun x => x))
  have hgN : N + 4 ≤ g := by rw [← HWS.out]; exact hgW
  clear hown1 ho1 hgW hgk hcur b0 bf0 r0 rf0 b1 bf1 r1 rf1 b2 bf2 r2 rf2 b3 bf3 r3 rf3 b4 bf4 r4 rf4 b5 bf5 r5 rf5 p0 p1 p2
  have b0 : w1.cell? ⟨N, 0, none⟩ = some (.int .i64 v.k) := (HC0.out).cell 0
  have bf0 : w1.frozen? ⟨N, 0, none⟩ = false := (HC0.out).frozen 0
  have b1 : w1.cell? ⟨N, 1, none⟩ = some (.int .i64 v.i) := (HC0.out).cell 1
  have bf1 : w1.frozen? ⟨N, 1, none⟩ = false := (HC0.out).frozen 1
  have b2 : w1.cell? ⟨N, 2, none⟩ = some (.int .i64 v.s) := (HC0.out).cell 2
  have bf2 : w1.frozen? ⟨N, 2, none⟩ = false := (HC0.out).frozen 2
  have b3 : w1.cell? ⟨N, 3, none⟩ = some (.string v.t) := (HC0.out).cell 3
  have bf3 : w1.frozen? ⟨N, 3, none⟩ = false := (HC0.out).frozen 3
  have b4 : w1.cell? ⟨N, 4, none⟩ = some (.slice v.la v.ln v.lc) := (HC0.out).cell 4
  have bf4 : w1.frozen? ⟨N, 4, none⟩ = false := (HC0.out).frozen 4
  have b5 : w1.cell? ⟨N, 5, none⟩ = some (.slice v.fa v.fn v.fc) := (HC0.out).cell 5
  have bf5 : w1.frozen? ⟨N, 5, none⟩ = false := (HC0.out).frozen 5
  have r0 : w1.cell? ⟨N + 1 + 1 + 1, 0, none⟩ = some (.int .i64 0) := (HC3.out).cell 0
  have rf0 : w1.frozen? ⟨N + 1 + 1 + 1, 0, none⟩ = false := (HC3.out).frozen 0
  have r1 : w1.cell? ⟨N + 1 + 1 + 1, 1, none⟩ = some (.int .i64 0) := (HC3.out).cell 1
  have rf1 : w1.frozen? ⟨N + 1 + 1 + 1, 1, none⟩ = false := (HC3.out).frozen 1
  have r2 : w1.cell? ⟨N + 1 + 1 + 1, 2, none⟩ = some (.int .i64 0) := (HC3.out).cell 2
  have rf2 : w1.frozen? ⟨N + 1 + 1 + 1, 2, none⟩ = false := (HC3.out).frozen 2
  have r3 : w1.cell? ⟨N + 1 + 1 + 1, 3, none⟩ = some (.string ⟨#[]⟩) := (HC3.out).cell 3
  have rf3 : w1.frozen? ⟨N + 1 + 1 + 1, 3, none⟩ = false := (HC3.out).frozen 3
  have r4 : w1.cell? ⟨N + 1 + 1 + 1, 4, none⟩ = some (.slice none 0 0) := (HC3.out).cell 4
  have rf4 : w1.frozen? ⟨N + 1 + 1 + 1, 4, none⟩ = false := (HC3.out).frozen 4
  have r5 : w1.cell? ⟨N + 1 + 1 + 1, 5, none⟩ = some (.slice none 0 0) := (HC3.out).cell 5
  have rf5 : w1.frozen? ⟨N + 1 + 1 + 1, 5, none⟩ = false := (HC3.out).frozen 5
  have p0 : w1.cell? ⟨N + 1, 0, none⟩ = some (.int .i64 k) := (HC1.out).cell 0
  have p1 : w1.cell? ⟨N + 1, 1, none⟩ = some (.int .i64 (q : Int)) := (HC1.out).cell 1
  have p2 : w1.cell? ⟨N + 1, 2, none⟩ = some (.string nm) := (HC1.out).cell 2
  have x0 : w1.cell? ⟨N + 1 + 1, 0, none⟩ = some (.int .i64 x.k) := (HC2.out).cell 0
  have x1 : w1.cell? ⟨N + 1 + 1, 1, none⟩ = some (.int .i64 x.i) := (HC2.out).cell 1
  have x2 : w1.cell? ⟨N + 1 + 1, 2, none⟩ = some (.int .i64 x.s) := (HC2.out).cell 2
  have x3 : w1.cell? ⟨N + 1 + 1, 3, none⟩ = some (.string x.t) := (HC2.out).cell 3
  have x4 : w1.cell? ⟨N + 1 + 1, 4, none⟩ = some (.slice x.la x.ln x.lc) := (HC2.out).cell 4
  have x5 : w1.cell? ⟨N + 1 + 1, 5, none⟩ = some (.slice x.fa x.fn x.fc) := (HC2.out).cell 5
  obtain ⟨u0, e0⟩ : ∃ u, w1.cell? ⟨g, q * 6, none⟩ = some u := own_cell6 HGK.out HCUR.out hqn HV.out.len (j := 0) (by omega)
  have ef0 : w1.frozen? ⟨g, q * 6, none⟩ = false := HGK.out.frozen _
  obtain ⟨u1, e1⟩ : ∃ u, w1.cell? ⟨g, q * 6 + 1, none⟩ = some u := own_cell6 HGK.out HCUR.out hqn HV.out.len (j := 1) (by omega)
  have ef1 : w1.frozen? ⟨g, q * 6 + 1, none⟩ = false := HGK.out.frozen _
  obtain ⟨u2, e2⟩ : ∃ u, w1.cell? ⟨g, q * 6 + 2, none⟩ = some u := own_cell6 HGK.out HCUR.out hqn HV.out.len (j := 2) (by omega)
  have ef2 : w1.frozen? ⟨g, q * 6 + 2, none⟩ = false := HGK.out.frozen _
  obtain ⟨u3, e3⟩ : ∃ u, w1.cell? ⟨g, q * 6 + 3, none⟩ = some u := own_cell6 HGK.out HCUR.out hqn HV.out.len (j := 3) (by omega)
  have ef3 : w1.frozen? ⟨g, q * 6 + 3, none⟩ = false := HGK.out.frozen _
  obtain ⟨u4, e4⟩ : ∃ u, w1.cell? ⟨g, q * 6 + 4, none⟩ = some u := own_cell6 HGK.out HCUR.out hqn HV.out.len (j := 4) (by omega)
  have ef4 : w1.frozen? ⟨g, q * 6 + 4, none⟩ = false := HGK.out.frozen _
  obtain ⟨u5, e5⟩ : ∃ u, w1.cell? ⟨g, q * 6 + 5, none⟩ = some u := own_cell6 HGK.out HCUR.out hqn HV.out.len (j := 5) (by omega)
  have ef5 : w1.frozen? ⟨g, q * 6 + 5, none⟩ = false := HGK.out.frozen _
  have hq0 : (0 : Int) ≤ (q : Int) := by omega
  have hqI : (q : Int) < (v.ln : Int) := by omega
  have n0 : N ≠ g := by omega
  have n1 : g ≠ N := by omega
  have hs2 := set6_blk (o := q * 6) (a := .int .i64 x.k) (b := .int .i64 x.i) (c := .int .i64 x.s) (d := .string x.t) (e := .slice x.la x.ln x.lc) (f := .slice x.fa x.fn x.fc) (HGK.out.far (p := ⟨N, 4, none⟩) (fun e => n0 e.symm) (.slice (some ⟨g, 0, none⟩) v.ln c1))
  have HPOST : Hid (∀ wE, Only (fun b => b = N + 1 + 1 + 1) (((((((w1.setCell ⟨N, 4, none⟩ (.slice (some ⟨g, 0, none⟩) v.ln c1)).setCell ⟨g, q * 6, none⟩ (.int .i64 x.k)).setCell ⟨g, q * 6 + 1, none⟩ (.int .i64 x.i)).setCell ⟨g, q * 6 + 2, none⟩ (.int .i64 x.s)).setCell ⟨g, q * 6 + 3, none⟩ (.string x.t)).setCell ⟨g, q * 6 + 4, none⟩ (.slice x.la x.ln x.lc)).setCell ⟨g, q * 6 + 5, none⟩ (.slice x.fa x.fn x.fc)) wE → RepPost S n (setLT T q X) w (.returned (.agg #[.int .i64 v.k, .int .i64 v.i, .int .i64 v.s, .string v.t, .slice (some ⟨g, 0, none⟩) v.ln c1, .slice v.fa v.fn v.fc])) wE) := Lib.hid fun wE hE =>
    repL_post HN.out (show N ≤ g by omega) HEQ.out HV.out.len HA.out HF.out HX.out hqn hnc HCUR.out hcs (hE.blk hs2 (by omega)) ((((HOA.out.trans HW1.out).mono (fun _ x => x.elim)).trans (Only.mono (F := fun b => b = N ∨ b = g) (by repeat (first | with_reducible exact Only.refl _ _ | with_reducible refine Only.drew ?_ | with_reducible refine Only.alloc ?_ _ | with_reducible refine Only.setCell ?_ (Or.inl ?_) _ | exact rfl | exact Or.inl rfl | exact Or.inr (Or.inl rfl) | exact Or.inr (Or.inr rfl) | exact Or.inr rfl)) (fun b e => by omega))).trans (hE.mono (fun b e => by omega)))
  clear hs2
  go_wp2_with fail
  exact bodyPost_ret (v := .agg #[.int .i64 v.k, .int .i64 v.i, .int .i64 v.s, .string v.t, .slice (some ⟨g, 0, none⟩) v.ln c1, .slice v.fa v.fn v.fc]) (by simp [results, Tryd.results36, go_sem, r0, r1, r2, r3, r4, r5]) rfl (HPOST.out _ (by repeat (first | with_reducible exact Only.refl _ _ | with_reducible refine Only.drew ?_ | with_reducible refine Only.alloc ?_ _ | with_reducible refine Only.setCell ?_ (Or.inl ?_) _ | exact rfl | exact Or.inl rfl | exact Or.inr (Or.inl rfl) | exact Or.inr (Or.inr rfl) | exact Or.inr rfl)))
set_option maxRecDepth 100000 in
set_option maxHeartbeats 16000000 in
theorem replaceF_any (v x : VC) (T X : VT) (i : Int) (q : Nat) (nm : ByteArray) (S : Nat → Prop) (n : Nat) (w : World) (h : VAt w S (n + 1) v T) (hx : VAt w S n x X) (hj : fieldL T.f nm = some q) (hq : q < T.f.length) (hsz : v.fn ≤ 1353245080300) : Calls Tryd.prog 36 #[.agg #[.int .i64 v.k, .int .i64 v.i, .int .i64 v.s, .string v.t, .slice v.la v.ln v.lc, .slice v.fa v.fn v.fc], .agg #[.int .i64 1, .int .i64 i, .string nm], .agg #[.int .i64 x.k, .int .i64 x.i, .int .i64 x.s, .string x.t, .slice x.la x.ln x.lc, .slice x.fa x.fn x.fc]] w (RepPost S n (setFT T q X) w) := by
  have HFJ := Lib.hid (fieldI_some hj)
  have HX := Lib.hid hx
  obtain ⟨heq, hL, ⟨F, hF, hB⟩⟩ := h
  have HEQ := Lib.hid heq
  have HL := Lib.hid hL
  have HB := Lib.hid hB
  have HF := Lib.hid hF
  have HNM : Hid (All2 (fun c x => c.n = x.1) F T.f) := Lib.hid (hB.imp fun _ _ h => h.1)
  have hqn : q < v.fn := by rw [← hF.len, hB.1]; exact hq
  clear hx hF heq hL hB hj
  obtain ⟨N, HN⟩ : ∃ N, Hid (w.heap.size = N) := ⟨_, Lib.hid rfl⟩
  obtain ⟨W, HW⟩ : ∃ W, Hid (W = ((((w.alloc (.cells #[.int .i64 v.k, .int .i64 v.i, .int .i64 v.s, .string v.t, .slice v.la v.ln v.lc, .slice v.fa v.fn v.fc] 25)).alloc (.cells #[.int .i64 1, .int .i64 i, .string nm] 61)).alloc (.cells #[.int .i64 x.k, .int .i64 x.i, .int .i64 x.s, .string x.t, .slice x.la x.ln x.lc, .slice x.fa x.fn x.fc] 25)).alloc (.cells #[.int .i64 0, .int .i64 0, .int .i64 0, .string ⟨#[]⟩, .slice none 0 0, .slice none 0 0] 25))) := ⟨_, Lib.hid rfl⟩
  have HOA : Hid (Only Nobody w W) := Lib.hid (by rw [HW.out]; exact ((((Only.refl _ _).alloc _).alloc _).alloc _).alloc _)
  have HB0 : Hid (Blk W N 25 #[.int .i64 v.k, .int .i64 v.i, .int .i64 v.s, .string v.t, .slice v.la v.ln v.lc, .slice v.fa v.fn v.fc]) := Lib.hid (by rw [HW.out, ← HN.out]; exact (((Blk.new _ _ _).alloc _).alloc _).alloc _)
  have HB1 : Hid (Blk W (N + 1) 61 #[.int .i64 1, .int .i64 i, .string nm]) := Lib.hid (by
    have := (Blk.new (w.alloc (.cells #[.int .i64 v.k, .int .i64 v.i, .int .i64 v.s, .string v.t, .slice v.la v.ln v.lc, .slice v.fa v.fn v.fc] 25)) 61 #[.int .i64 1, .int .i64 i, .string nm])
    rw [HW.out, ← HN.out]
    simpa using (this.alloc (.cells #[.int .i64 x.k, .int .i64 x.i, .int .i64 x.s, .string x.t, .slice x.la x.ln x.lc, .slice x.fa x.fn x.fc] 25)).alloc (.cells #[.int .i64 0, .int .i64 0, .int .i64 0, .string ⟨#[]⟩, .slice none 0 0, .slice none 0 0] 25))
  have HB2 : Hid (Blk W (N + 1 + 1) 25 #[.int .i64 x.k, .int .i64 x.i, .int .i64 x.s, .string x.t, .slice x.la x.ln x.lc, .slice x.fa x.fn x.fc]) := Lib.hid (by
    have := (Blk.new ((w.alloc (.cells #[.int .i64 v.k, .int .i64 v.i, .int .i64 v.s, .string v.t, .slice v.la v.ln v.lc, .slice v.fa v.fn v.fc] 25)).alloc (.cells #[.int .i64 1, .int .i64 i, .string nm] 61)) 25 #[.int .i64 x.k, .int .i64 x.i, .int .i64 x.s, .string x.t, .slice x.la x.ln x.lc, .slice x.fa x.fn x.fc])
    rw [HW.out, ← HN.out]
    simpa using this.alloc (.cells #[.int .i64 0, .int .i64 0, .int .i64 0, .string ⟨#[]⟩, .slice none 0 0, .slice none 0 0] 25))
  have HB3 : Hid (Blk W (N + 1 + 1 + 1) 25 #[.int .i64 0, .int .i64 0, .int .i64 0, .string ⟨#[]⟩, .slice none 0 0, .slice none 0 0]) := Lib.hid (by
    have := (Blk.new (((w.alloc (.cells #[.int .i64 v.k, .int .i64 v.i, .int .i64 v.s, .string v.t, .slice v.la v.ln v.lc, .slice v.fa v.fn v.fc] 25)).alloc (.cells #[.int .i64 1, .int .i64 i, .string nm] 61)).alloc (.cells #[.int .i64 x.k, .int .i64 x.i, .int .i64 x.s, .string x.t, .slice x.la x.ln x.lc, .slice x.fa x.fn x.fc] 25)) 25 #[.int .i64 0, .int .i64 0, .int .i64 0, .string ⟨#[]⟩, .slice none 0 0, .slice none 0 0])
    rw [HW.out, ← HN.out]
    simpa using this)
  have HWS : Hid (W.heap.size = N + 4) := Lib.hid (by rw [HW.out, ← HN.out]; simp)
  go_enter Tryd.func36, Tryd.ntmps36
  go_upto_region 1 with fail
  rw [← HW.out, HN.out]
  have b0 : W.cell? ⟨N, 0, none⟩ = some (.int .i64 v.k) := (HB0.out).cell 0
  have bf0 : W.frozen? ⟨N, 0, none⟩ = false := (HB0.out).frozen 0
  have b1 : W.cell? ⟨N, 1, none⟩ = some (.int .i64 v.i) := (HB0.out).cell 1
  have bf1 : W.frozen? ⟨N, 1, none⟩ = false := (HB0.out).frozen 1
  have b2 : W.cell? ⟨N, 2, none⟩ = some (.int .i64 v.s) := (HB0.out).cell 2
  have bf2 : W.frozen? ⟨N, 2, none⟩ = false := (HB0.out).frozen 2
  have b3 : W.cell? ⟨N, 3, none⟩ = some (.string v.t) := (HB0.out).cell 3
  have bf3 : W.frozen? ⟨N, 3, none⟩ = false := (HB0.out).frozen 3
  have b4 : W.cell? ⟨N, 4, none⟩ = some (.slice v.la v.ln v.lc) := (HB0.out).cell 4
  have bf4 : W.frozen? ⟨N, 4, none⟩ = false := (HB0.out).frozen 4
  have b5 : W.cell? ⟨N, 5, none⟩ = some (.slice v.fa v.fn v.fc) := (HB0.out).cell 5
  have bf5 : W.frozen? ⟨N, 5, none⟩ = false := (HB0.out).frozen 5
  have r0 : W.cell? ⟨N + 1 + 1 + 1, 0, none⟩ = some (.int .i64 0) := (HB3.out).cell 0
  have rf0 : W.frozen? ⟨N + 1 + 1 + 1, 0, none⟩ = false := (HB3.out).frozen 0
  have r1 : W.cell? ⟨N + 1 + 1 + 1, 1, none⟩ = some (.int .i64 0) := (HB3.out).cell 1
  have rf1 : W.frozen? ⟨N + 1 + 1 + 1, 1, none⟩ = false := (HB3.out).frozen 1
  have r2 : W.cell? ⟨N + 1 + 1 + 1, 2, none⟩ = some (.int .i64 0) := (HB3.out).cell 2
  have rf2 : W.frozen? ⟨N + 1 + 1 + 1, 2, none⟩ = false := (HB3.out).frozen 2
  have r3 : W.cell? ⟨N + 1 + 1 + 1, 3, none⟩ = some (.string ⟨#[]⟩) := (HB3.out).cell 3
  have rf3 : W.frozen? ⟨N + 1 + 1 + 1, 3, none⟩ = false := (HB3.out).frozen 3
  have r4 : W.cell? ⟨N + 1 + 1 + 1, 4, none⟩ = some (.slice none 0 0) := (HB3.out).cell 4
  have rf4 : W.frozen? ⟨N + 1 + 1 + 1, 4, none⟩ = false := (HB3.out).frozen 4
  have r5 : W.cell? ⟨N + 1 + 1 + 1, 5, none⟩ = some (.slice none 0 0) := (HB3.out).cell 5
  have rf5 : W.frozen? ⟨N + 1 + 1 + 1, 5, none⟩ = false := (HB3.out).frozen 5
  have p0 : W.cell? ⟨N + 1, 0, none⟩ = some (.int .i64 1) := HB1.out.cell 0
  go_wp2_with fail
  refine (clonef_any v.fa v.fn v.fc F S W (HF.out.same HOA.out) hsz).mono ?_
  rintro e w1 ⟨A1, c1, rfl, hown1, ho1⟩
  obtain ⟨g, cur, rfl, hgW, hgk, hcur, hcs, hnc⟩ := own_blk hown1 (by omega)
  have hgN : N + 4 ≤ g := by rw [← HWS.out]; exact hgW
  have HCUR := Lib.hid hcur
  have HW1 := Lib.hid ho1
  have HC0 : Hid (Blk w1 N 25 #[.int .i64 v.k, .int .i64 v.i, .int .i64 v.s, .string v.t, .slice v.la v.ln v.lc, .slice v.fa v.fn v.fc]) := Lib.hid (ho1.blk HB0.out (fun x => x))
  have hf5 : w1.frozen? ⟨N, 5, none⟩ = false := HC0.out.frozen 5
  have hb5 : w1.cell? ⟨N, 5, none⟩ = some (.slice v.fa v.fn v.fc) := HC0.out.cell 5
  have HGK1 := Lib.hid hgk
  clear b0 bf0 r0 rf0 b1 bf1 r1 rf1 b2 bf2 r2 rf2 b3 bf3 r3 rf3 b4 bf4 r4 rf4 b5 bf5 r5 rf5 p0
  obtain ⟨w2, HW2⟩ : ∃ w2, Hid (w2 = w1.setCell ⟨N, 5, none⟩ (.slice (some ⟨g, 0, none⟩) v.fn c1)) := ⟨_, Lib.hid rfl⟩
  have HD0 : Hid (Blk w2 N 25 #[.int .i64 v.k, .int .i64 v.i, .int .i64 v.s, .string v.t, .slice v.la v.ln v.lc, .slice (some ⟨g, 0, none⟩) v.fn c1]) := Lib.hid (by rw [HW2.out]; exact HC0.out.set_ 5 _)
  have HO12 : Hid (Only (fun b => b = N) w1 w2) := Lib.hid (by rw [HW2.out]; exact (Only.refl (fun b => b = N) w1).setCell (p := ⟨N, 5, none⟩) (.inl rfl) _)
  have HGK2 : Hid (Blk w2 g 72 cur) := Lib.hid (HO12.out.blk hgk (by omega))
  have HD1 : Hid (Blk w2 (N + 1) 61 #[.int .i64 1, .int .i64 i, .string nm]) := Lib.hid (HO12.out.blk (ho1.blk HB1.out (fun x => x)) (by omega))
  have HD2 : Hid (Blk w2 (N + 1 + 1) 25 #[.int .i64 x.k, .int .i64 x.i, .int .i64 x.s, .string x.t, .slice x.la x.ln x.lc, .slice x.fa x.fn x.fc]) := Lib.hid (HO12.out.blk (ho1.blk HB2.out (fun x => x)) (by omega))
  have HD3 : Hid (Blk w2 (N + 1 + 1 + 1) 25 #[.int .i64 0, .int .i64 0, .int .i64 0, .string ⟨#[]⟩, .slice none 0 0, .slice none 0 0]) := Lib.hid (HO12.out.blk (ho1.blk HB3.out (fun x => x)) (by omega))
  clear hown1 ho1 hgW hgk hcur
  have hq0 : (0 : Int) ≤ (q : Int) := by omega
  have hqI : (q : Int) < (v.fn : Int) := by omega
  have n0 : N ≠ g := by omega
  have n1 : g ≠ N := by omega
  go_upto_region 3 with fail
  rw [← HW2.out]
  have HOX := Lib.hid (Only.refl Nobody w2)
  have HOXG := Lib.hid (Only.refl (fun b => b = g) w2)
  have HSC : Hid (∀ w', Only (fun b => b = g) w2 w' → (w'.cell? ⟨N, 0, none⟩ = some (.int .i64 v.k) ∧ w'.cell? ⟨N, 1, none⟩ = some (.int .i64 v.i) ∧ w'.cell? ⟨N, 2, none⟩ = some (.int .i64 v.s) ∧ w'.cell? ⟨N, 3, none⟩ = some (.string v.t) ∧ w'.cell? ⟨N, 4, none⟩ = some (.slice v.la v.ln v.lc) ∧ w'.cell? ⟨N, 5, none⟩ = some (.slice (some ⟨g, 0, none⟩) v.fn c1)) ∧ w'.cell? ⟨N + 1, 2, none⟩ = some (.string nm) ∧ w'.cell? ⟨N + 1 + 1, 0, none⟩ = some (.int .i64 x.k) ∧ w'.cell? ⟨N + 1 + 1, 1, none⟩ = some (.int .i64 x.i) ∧ w'.cell? ⟨N + 1 + 1, 2, none⟩ = some (.int .i64 x.s) ∧ w'.cell? ⟨N + 1 + 1, 3, none⟩ = some (.string x.t) ∧ w'.cell? ⟨N + 1 + 1, 4, none⟩ = some (.slice x.la x.ln x.lc) ∧ w'.cell? ⟨N + 1 + 1, 5, none⟩ = some (.slice x.fa x.fn x.fc)) := Lib.hid fun w' h => by
    have h0 := h.blk HD0.out (by omega)
    have h1 := h.blk HD1.out (by omega)
    have h2 := h.blk HD2.out (by omega)
    exact ⟨⟨h0.cell 0, h0.cell 1, h0.cell 2, h0.cell 3, h0.cell 4, h0.cell 5⟩, h1.cell 2, ⟨h2.cell 0, h2.cell 1, h2.cell 2, h2.cell 3, h2.cell 4, h2.cell 5⟩⟩
  have hsc := HSC.out w2 HOXG.out
  have HRW : Hid (RowA FC.vals 7 w2 Any_ (some ⟨g, 0, none⟩) v.fn F) := Lib.hid (RowA.of_blk flen HGK2.out HF.out.len HCUR.out trivial)
  go_region_held3 (fun w' => (w'.cell? ⟨N, 0, none⟩ = some (.int .i64 v.k) ∧ w'.cell? ⟨N, 1, none⟩ = some (.int .i64 v.i) ∧ w'.cell? ⟨N, 2, none⟩ = some (.int .i64 v.s) ∧ w'.cell? ⟨N, 3, none⟩ = some (.string v.t) ∧ w'.cell? ⟨N, 4, none⟩ = some (.slice v.la v.ln v.lc) ∧ w'.cell? ⟨N, 5, none⟩ = some (.slice (some ⟨g, 0, none⟩) v.fn c1)) ∧ w'.cell? ⟨N + 1, 2, none⟩ = some (.string nm) ∧ w'.cell? ⟨N + 1 + 1, 0, none⟩ = some (.int .i64 x.k) ∧ w'.cell? ⟨N + 1 + 1, 1, none⟩ = some (.int .i64 x.i) ∧ w'.cell? ⟨N + 1 + 1, 2, none⟩ = some (.int .i64 x.s) ∧ w'.cell? ⟨N + 1 + 1, 3, none⟩ = some (.string x.t) ∧ w'.cell? ⟨N + 1 + 1, 4, none⟩ = some (.slice x.la x.ln x.lc) ∧ w'.cell? ⟨N + 1 + 1, 5, none⟩ = some (.slice x.fa x.fn x.fc)) (exact HSC.out _ (by repeat (first | with_reducible exact HOXG.out | with_reducible exact Only.refl _ _ | with_reducible refine Only.drew ?_ | with_reducible refine Only.alloc ?_ _ | with_reducible refine Only.setCell ?_ (Or.inl ?_) _ | exact rfl))) (first
    | (go_at_call 53; refine (field_any ⟨v.k, v.i, v.s, v.t, v.la, v.ln, v.lc, some ⟨g, 0, none⟩, v.fn, c1⟩ F T.f Any_ nm hsz _ (HRW.out.same (by repeat (first | with_reducible exact HOX.out | with_reducible exact Only.refl _ _ | with_reducible refine Only.drew ?_ | with_reducible refine Only.alloc ?_ _))) HNM.out).mono ?_; rw [FiPost_eq HFJ.out]; rintro e w4 ⟨rfl, ho4⟩; have HOX : Hid (Only Nobody w2 w4) := Lib.hid (Only.trans (by repeat (first | with_reducible exact HOX.out | with_reducible exact Only.refl _ _ | with_reducible refine Only.drew ?_ | with_reducible refine Only.alloc ?_ _)) ho4); have HOXG : Hid (Only (fun b => b = g) w2 w4) := Lib.hid (HOX.out.mono (fun _ x => x.elim)); have HGK4 := HOX.out.blk HGK2.out (fun x => x); obtain ⟨u0, e0⟩ : ∃ u, w4.cell? ⟨g, q * 7 + 1, none⟩ = some u := own_cell7 HGK4 HCUR.out hqn HF.out.len (j := 1 + 0) (by omega); have ef0 : w4.frozen? ⟨g, q * 7 + 1, none⟩ = false := HGK4.frozen _; obtain ⟨u1, e1⟩ : ∃ u, w4.cell? ⟨g, q * 7 + 1 + 1, none⟩ = some u := own_cell7 HGK4 HCUR.out hqn HF.out.len (j := 1 + 1) (by omega); have ef1 : w4.frozen? ⟨g, q * 7 + 1 + 1, none⟩ = false := HGK4.frozen _; obtain ⟨u2, e2⟩ : ∃ u, w4.cell? ⟨g, q * 7 + 1 + 2, none⟩ = some u := own_cell7 HGK4 HCUR.out hqn HF.out.len (j := 1 + 2) (by omega); have ef2 : w4.frozen? ⟨g, q * 7 + 1 + 2, none⟩ = false := HGK4.frozen _; obtain ⟨u3, e3⟩ : ∃ u, w4.cell? ⟨g, q * 7 + 1 + 3, none⟩ = some u := own_cell7 HGK4 HCUR.out hqn HF.out.len (j := 1 + 3) (by omega); have ef3 : w4.frozen? ⟨g, q * 7 + 1 + 3, none⟩ = false := HGK4.frozen _; obtain ⟨u4, e4⟩ : ∃ u, w4.cell? ⟨g, q * 7 + 1 + 4, none⟩ = some u := own_cell7 HGK4 HCUR.out hqn HF.out.len (j := 1 + 4) (by omega); have ef4 : w4.frozen? ⟨g, q * 7 + 1 + 4, none⟩ = false := HGK4.frozen _; obtain ⟨u5, e5⟩ : ∃ u, w4.cell? ⟨g, q * 7 + 1 + 5, none⟩ = some u := own_cell7 HGK4 HCUR.out hqn HF.out.len (j := 1 + 5) (by omega); have ef5 : w4.frozen? ⟨g, q * 7 + 1 + 5, none⟩ = false := HGK4.frozen _; have HG4 := Lib.hid HGK4; clear ho4 HGK4))
  all_goals
    have h0 := HOX.out.blk HD0.out (fun x => x)
    have h3 := HOX.out.blk HD3.out (fun x => x)
    have b0 : w4.cell? ⟨N, 0, none⟩ = some (.int .i64 v.k) := (h0).cell 0
    have b1 : w4.cell? ⟨N, 1, none⟩ = some (.int .i64 v.i) := (h0).cell 1
    have b2 : w4.cell? ⟨N, 2, none⟩ = some (.int .i64 v.s) := (h0).cell 2
    have b3 : w4.cell? ⟨N, 3, none⟩ = some (.string v.t) := (h0).cell 3
    have b4 : w4.cell? ⟨N, 4, none⟩ = some (.slice v.la v.ln v.lc) := (h0).cell 4
    have b5 : w4.cell? ⟨N, 5, none⟩ = some (.slice (some ⟨g, 0, none⟩) v.fn c1) := (h0).cell 5
    have r0 : w4.cell? ⟨N + 1 + 1 + 1, 0, none⟩ = some (.int .i64 0) := (h3).cell 0
    have rf0 : w4.frozen? ⟨N + 1 + 1 + 1, 0, none⟩ = false := (h3).frozen 0
    have r1 : w4.cell? ⟨N + 1 + 1 + 1, 1, none⟩ = some (.int .i64 0) := (h3).cell 1
    have rf1 : w4.frozen? ⟨N + 1 + 1 + 1, 1, none⟩ = false := (h3).frozen 1
    have r2 : w4.cell? ⟨N + 1 + 1 + 1, 2, none⟩ = some (.int .i64 0) := (h3).cell 2
    have rf2 : w4.frozen? ⟨N + 1 + 1 + 1, 2, none⟩ = false := (h3).frozen 2
    have r3 : w4.cell? ⟨N + 1 + 1 + 1, 3, none⟩ = some (.string ⟨#[]⟩) := (h3).cell 3
    have rf3 : w4.frozen? ⟨N + 1 + 1 + 1, 3, none⟩ = false := (h3).frozen 3
    have r4 : w4.cell? ⟨N + 1 + 1 + 1, 4, none⟩ = some (.slice none 0 0) := (h3).cell 4
    have rf4 : w4.frozen? ⟨N + 1 + 1 + 1, 4, none⟩ = false := (h3).frozen 4
    have r5 : w4.cell? ⟨N + 1 + 1 + 1, 5, none⟩ = some (.slice none 0 0) := (h3).cell 5
    have rf5 : w4.frozen? ⟨N + 1 + 1 + 1, 5, none⟩ = false := (h3).frozen 5
    clear h0 h3
    have hs2 := set6_blk (o := q * 7 + 1) (a := .int .i64 x.k) (b := .int .i64 x.i) (c := .int .i64 x.s) (d := .string x.t) (e := .slice x.la x.ln x.lc) (f := .slice x.fa x.fn x.fc) HG4.out
    have HPOST : Hid (∀ wE, Only (fun b => b = N + 1 + 1 + 1) ((((((w4.setCell ⟨g, q * 7 + 1, none⟩ (.int .i64 x.k)).setCell ⟨g, q * 7 + 1 + 1, none⟩ (.int .i64 x.i)).setCell ⟨g, q * 7 + 1 + 2, none⟩ (.int .i64 x.s)).setCell ⟨g, q * 7 + 1 + 3, none⟩ (.string x.t)).setCell ⟨g, q * 7 + 1 + 4, none⟩ (.slice x.la x.ln x.lc)).setCell ⟨g, q * 7 + 1 + 5, none⟩ (.slice x.fa x.fn x.fc)) wE → RepPost S n (setFT T q X) w (.returned (.agg #[.int .i64 v.k, .int .i64 v.i, .int .i64 v.s, .string v.t, .slice v.la v.ln v.lc, .slice (some ⟨g, 0, none⟩) v.fn c1])) wE) := Lib.hid fun wE hE =>
      repF_post HN.out (show N ≤ g by omega) HEQ.out HF.out.len HB.out HL.out HX.out hqn hnc HCUR.out hcs (hE.blk hs2 (by omega)) ((((((HOA.out.trans HW1.out).mono (fun _ x => x.elim)).trans (HO12.out.mono (fun b e => by omega))).trans (HOX.out.mono (fun _ x => x.elim))).trans (Only.mono (F := fun b => b = g) (by repeat (first | with_reducible exact Only.refl _ _ | with_reducible refine Only.drew ?_ | with_reducible refine Only.alloc ?_ _ | with_reducible refine Only.setCell ?_ (Or.inl ?_) _ | exact rfl | exact Or.inl rfl | exact Or.inr (Or.inl rfl) | exact Or.inr (Or.inr rfl) | exact Or.inr rfl)) (fun b e => by omega))).trans (hE.mono (fun b e => by omega)))
    clear hs2
    go_wp2_with fail
    exact bodyPost_ret (v := .agg #[.int .i64 v.k, .int .i64 v.i, .int .i64 v.s, .string v.t, .slice v.la v.ln v.lc, .slice (some ⟨g, 0, none⟩) v.fn c1]) (by simp [results, Tryd.results36, go_sem, r0, r1, r2, r3, r4, r5]) rfl (HPOST.out _ (by repeat (first | with_reducible exact Only.refl _ _ | with_reducible refine Only.drew ?_ | with_reducible refine Only.alloc ?_ _ | with_reducible refine Only.setCell ?_ (Or.inl ?_) _ | exact rfl | exact Or.inl rfl | exact Or.inr (Or.inl rfl) | exact Or.inr (Or.inr rfl) | exact Or.inr rfl)))
end Go.Proofs.YtdccckoelnnnoaaDoor
