/- Path: the law PathAddresses. -/
import Derived.Test.YtdccckoelnnnoaaDoorGeL
import Derived.Test.YtdccckoelnnnoaaDoorAdP
namespace Go.Proofs.YtdccckoelnnnoaaDoor
open Go.RowKit
attribute [local go_sem ↓] Go.wp_at_zero Go.wp_at_succ

/-- What the first loop knows: no All so far, or one, at z. -/
def AdSt (L : List Pt) (z : Int) (k : Nat) : Prop := (z = -1 ∧ NoAll L k) ∨ ∃ q : Nat, z = (q : Int) ∧ q < k ∧ NoAll L q ∧ (∃ p, L[q]? = some p ∧ p.kind = 3) ∧ ∀ i p, q < i → i < k → L[i]? = some p → (p.kind == 3) = false
theorem AdSt.start (L : List Pt) : AdSt L (-1) 0 := .inl ⟨rfl, fun _ _ h => absurd h (by omega)⟩
theorem AdSt.found {L : List Pt} {z : Int} {k : Nat} {p : Pt} (h : AdSt L z k) (hz : ¬ 0 ≤ z) (hp : L[k]? = some p) (h3 : p.kind = 3) : AdSt L (k : Int) (k + 1) := by
  rcases h with ⟨_, h⟩ | ⟨q, hq, _⟩
  · exact .inr ⟨k, rfl, by omega, h, ⟨p, hp, h3⟩, fun i _ h1 h2 => absurd h1 (by omega)⟩
  · omega
theorem AdSt.next {L : List Pt} {z : Int} {k : Nat} {p : Pt} (h : AdSt L z k) (hp : L[k]? = some p) (h3 : (p.kind == 3) = false) : AdSt L z (k + 1) := by
  rcases h with ⟨hz, h⟩ | ⟨q, hq, hlt, hno, hq3, hb⟩
  · exact .inl ⟨hz, h.next hp h3⟩
  · refine .inr ⟨q, hq, by omega, hno, hq3, fun i x h1 h2 hx => ?_⟩
    by_cases e : i = k
    · subst e
      rw [hp] at hx
      injection hx with hx
      rw [← hx]; exact h3
    · exact hb i x h1 (by omega) hx
theorem AdSt.one {L : List Pt} {z : Int} {k : Nat} (h : AdSt L z k) (hk : L.length ≤ k) (hz : 0 ≤ z) : ∃ q : Nat, z = (q : Int) ∧ q < k ∧ OneAll L q := by
  rcases h with ⟨hz', _⟩ | ⟨q, hq, hlt, hno, hq3, hb⟩
  · omega
  · refine ⟨q, hq, hlt, hno, hq3, fun i p h1 hp => hb i p h1 ?_ hp⟩
    have := (List.getElem?_eq_some_iff.1 hp).1
    omega
theorem Pts.take_ {w : World} {A : Option Addr} {m q : Nat} {L : List Pt} (h : Pts w A m L) (hq : q ≤ m) : Pts w A q (L.take q) := by
  have hl : (L.take q).length = q := by rw [List.length_take, h.len]; omega
  refine ⟨⟨by rw [ptVals_length, hl], fun h0 => ?_⟩, hl⟩
  obtain ⟨ad, e, hlt, hc⟩ := h.rd.2 (by omega)
  refine ⟨ad, e, hlt, fun j u hu => hc j u ?_⟩
  have hj : j < (ptVals (L.take q)).length := (List.getElem?_eq_some_iff.1 hu).1
  have e2 : ptVals L = ptVals (L.take q) ++ ptVals (L.drop q) := by
    unfold ptVals
    rw [← List.flatMap_append, List.take_append_drop]
  rw [e2, List.getElem?_append_left hj]
  exact hu
theorem infoRq : (Tryd.prog.info? 44).map (fun i => (i.zero, i.size, i.bytes)) = some (some (.agg #[.int .i64 0, .int .i64 0, .string ByteArray.empty]), 3, 32) := by kernel_rfl
theorem one_pts (L : List Pt) : ∀ u ∈ ptVals L, u.oneCell' = true := by
  intro u hu
  obtain ⟨o, _, ho⟩ := List.mem_flatMap.1 hu
  exact one_pt o u ho
theorem cur_at {cur : Array Value} {xs : List Value} {j k : Nat} {u : Value} (h : cur.toList.take k = xs) (hu : xs[j]? = some u) : cur[j]? = some u := by
  rw [← h] at hu
  rw [← Array.getElem?_toList]
  have hj : j < k := by
    have := (List.getElem?_eq_some_iff.1 hu).1
    rw [List.length_take] at this
    omega
  rw [List.getElem?_take_of_lt hj] at hu
  exact hu
/-- How many of the paths with indexes up to k lead to a value. -/
def AdrN (U : VT) (l : List Pt) (k N : Nat) : Prop := ∃ R, findT (U.l.take k) l = some R ∧ R.length = N
theorem pts_store {w : World} {g m q : Nat} {t : TypeId} {cur : Array Value} {L : List Pt} (hb : Blk w g t cur) (hl : L.length = m) (hc : ∀ (j : Nat) (u : Value), (ptVals L)[j]? = some u → cur[j]? = some u) (hq : q < m) (p : Pt) : Pts (((w.setCell ⟨g, q * 3, none⟩ (.int .i64 p.kind)).setCell ⟨g, q * 3 + 1, none⟩ (.int .i64 p.idx)).setCell ⟨g, q * 3 + 2, none⟩ (.string p.name)) (some ⟨g, 0, none⟩) m (L.set q p) := by
  have hb3 := ((hb.set_ (q * 3) (.int .i64 p.kind)).set_ (q * 3 + 1) (.int .i64 p.idx)).set_ (q * 3 + 2) (.string p.name)
  have hx : L[q]? = some L[q] := List.getElem?_eq_getElem (by omega)
  have s0 := (Array.getElem?_eq_some_iff.1 (hc _ _ (ptVals_get L q _ hx 0 _ rfl))).1
  have s1 := (Array.getElem?_eq_some_iff.1 (hc _ _ (ptVals_get L q _ hx 1 _ rfl))).1
  have s2 := (Array.getElem?_eq_some_iff.1 (hc _ _ (ptVals_get L q _ hx 2 _ rfl))).1
  refine ⟨⟨by rw [ptVals_length, List.length_set, hl], fun _ => ⟨⟨g, 0, none⟩, rfl, hb3.lt, fun j u hu => ?_⟩⟩, by rw [List.length_set, hl]⟩
  have hj : j < (ptVals (L.set q p)).length := (List.getElem?_eq_some_iff.1 hu).1
  rw [ptVals_length, List.length_set, hl] at hj
  have ea : Addr.add ⟨g, 0, none⟩ j = ⟨g, j, none⟩ := by unfold Addr.add; split <;> simp_all
  rw [ea, hb3.cell j]
  have hi : j / 3 < (L.set q p).length := by rw [List.length_set, hl]; omega
  have ho : (L.set q p)[j / 3]? = some (L.set q p)[j / 3] := List.getElem?_eq_getElem hi
  by_cases hq3 : j / 3 = q
  · have hp : (L.set q p)[j / 3] = p := by simp [hq3]
    rw [hp] at ho
    have hr : j % 3 < 3 := Nat.mod_lt _ (by omega)
    have hg := ptVals_get (L.set q p) (j / 3) p ho
    obtain h | h | h : j % 3 = 0 ∨ j % 3 = 1 ∨ j % 3 = 2 := by omega
    · have ej : j = q * 3 := by omega
      have h1 := hg 0 (.int .i64 p.kind) rfl
      rw [show j / 3 * 3 + 0 = j by omega, hu] at h1
      rw [h1, ej]
      simp [Array.getElem?_setIfInBounds]
      omega
    · have ej : j = q * 3 + 1 := by omega
      have h1 := hg 1 (.int .i64 p.idx) rfl
      rw [show j / 3 * 3 + 1 = j by omega, hu] at h1
      rw [h1, ej]
      simp [s1]
    · have ej : j = q * 3 + 2 := by omega
      have h1 := hg 2 (.string p.name) rfl
      rw [show j / 3 * 3 + 2 = j by omega, hu] at h1
      rw [h1, ej]
      simp [s2]
  · have hp : (L.set q p)[j / 3]? = L[j / 3]? := List.getElem?_set_ne (fun e => hq3 e.symm)
    have ho2 : L[j / 3]? = some L[j / 3] := List.getElem?_eq_getElem (by omega)
    have hr : j % 3 < (L[j / 3]).vals.length := by simp only [Pt.vals, List.length_cons, List.length_nil]; omega
    have h1 := ptVals_get L (j / 3) _ ho2 (j % 3) _ (List.getElem?_eq_getElem hr)
    have h2 := ptVals_get (L.set q p) (j / 3) _ (hp.trans ho2) (j % 3) _ (List.getElem?_eq_getElem hr)
    rw [show j / 3 * 3 + j % 3 = j by omega] at h1 h2
    rw [hu] at h2
    rw [Array.getElem?_setIfInBounds_ne (by omega), Array.getElem?_setIfInBounds_ne (by omega), Array.getElem?_setIfInBounds_ne (by omega), hc _ _ h1, ← h2]
theorem AdrN.step {U X : VT} {l : List Pt} {k N : Nat} {R : List VT} (h : AdrN U l k N) (hR : findT U.l l = some R) (hx : U.l[k]? = some X) : ∃ Y, findT [X] l = some Y ∧ AdrN U l (k + 1) (N + Y.length) ∧ ∀ y, Y = [y] → R[N]? = some y := by
  obtain ⟨Ri, h1, h2⟩ := h
  obtain ⟨Y, g1, g2, Z, g3⟩ := findT_step hR h1 hx
  refine ⟨Y, g1, ⟨Ri ++ Y, g2, by rw [List.length_append, h2]⟩, fun y hy => ?_⟩
  rw [g3, hy, ← h2]
  simp
theorem AdrN.done {U : VT} {l : List Pt} {k N : Nat} {R : List VT} (h : AdrN U l k N) (hR : findT U.l l = some R) (hk : U.l.length ≤ k) : N = R.length := by
  obtain ⟨Ri, h1, h2⟩ := h
  rw [List.take_of_length_le hk, hR] at h1
  cases h1
  exact h2.symm

/-- One step of a path at values that it applies to, by a part that is not All: no more values, none larger. -/
theorem leads_fit {p : Pt} {B : Nat} (h3 : (p.kind == 3) = false) : ∀ {Ts : List VT}, Ts.all (appT p) = true → (∀ X ∈ Ts, X.size ≤ B) → (leadsL p Ts).length ≤ Ts.length ∧ ∀ Y ∈ leadsL p Ts, Y.size ≤ B
  | [], _, _ => by simp [leadsL]
  | X :: Ts, ha, hb => by
    simp only [List.all_cons, Bool.and_eq_true] at ha
    have h1 := leadL_one ha.1 h3
    have h2 := lead_size p X
    have h4 := hb X (by simp)
    obtain ⟨i1, i2⟩ := leads_fit h3 ha.2 (fun Y hY => hb Y (by simp [hY]))
    have e : leadsL p (X :: Ts) = leadL p X ++ leadsL p Ts := by simp [leadsL]
    rw [e]
    refine ⟨by rw [List.length_append, List.length_cons]; omega, fun Y hY => ?_⟩
    rcases List.mem_append.1 hY with hY | hY
    · exact Nat.le_trans (sizeL_in hY) (Nat.le_trans h2 h4)
    · exact i2 Y hY
/-- A step by any part at one value at most. -/
theorem leads_all {p : Pt} {B : Nat} {Ts : List VT} (hl : Ts.length ≤ 1) (hb : ∀ X ∈ Ts, X.size ≤ B) : 88 * (leadsL p Ts).length ≤ B ∧ ∀ Y ∈ leadsL p Ts, Y.size ≤ B := by
  match Ts, hl with
  | [], _ => simp [leadsL]
  | [X], _ =>
    have e : leadsL p [X] = leadL p X := by simp [leadsL]
    have h2 := lead_size p X
    have h4 := hb X (by simp)
    have h5 := sizeL_len (leadL p X)
    rw [e]
    exact ⟨by omega, fun Y hY => Nat.le_trans (sizeL_in hY) (Nat.le_trans h2 h4)⟩
/-- No part but the one at k is All. -/
def MaxAll (L : List Pt) (k : Nat) : Prop := ∀ i p, i ≠ k → L[i]? = some p → (p.kind == 3) = false
theorem way_fit {T : VT} {L : List Pt} {k0 : Nat} (h3 : MaxAll L k0) (h : T.size ≤ 140737488351232) : ∀ {k : Nat} {Ts : List VT}, k ≤ L.length → Way T L k Ts → (∀ X ∈ Ts, X.size ≤ 140737488351232) ∧ 88 * Ts.length ≤ 140737488351232 ∧ (k ≤ k0 → Ts.length ≤ 1)
  | 0, Ts, _, hw => by
    rw [hw.1, dT_zero]
    simpa using h
  | k + 1, Ts, hk, hw => by
    obtain ⟨p, hp⟩ : ∃ p, L[k]? = some p := ⟨_, List.getElem?_eq_getElem (by omega)⟩
    have hwk : Way T L k (dT T L k) := ⟨rfl, fun j q hj hq => hw.2 j q (by omega) hq⟩
    obtain ⟨i1, i2, i3⟩ := way_fit h3 h (by omega) hwk
    have hall := hw.2 k p (by omega) hp
    rw [hw.1, dT_succ hp]
    by_cases e : k = k0
    · obtain ⟨g1, g2⟩ := leads_all (p := p) (i3 (by omega)) i1
      exact ⟨g2, g1, fun h => absurd h (by omega)⟩
    · obtain ⟨g1, g2⟩ := leads_fit (h3 k p e hp) hall i1
      exact ⟨g2, by omega, fun h => Nat.le_trans g1 (i3 (by omega))⟩
theorem fit_max {T : VT} {L : List Pt} {k0 : Nat} (h3 : MaxAll L k0) (h : T.size ≤ 140737488351232) : Fit T L := by
  refine ⟨h, fun k p q Ts hw hp ha => ?_⟩
  have hk : k < L.length := (List.getElem?_eq_some_iff.1 hp).1
  obtain ⟨i1, i2, i3⟩ := way_fit h3 h (by omega) hw
  have j1 : ∀ X ∈ Ts.take q, X.size ≤ 140737488351232 := fun X hX => i1 X (List.mem_of_mem_take hX)
  have j2 : (Ts.take q).length ≤ Ts.length := by rw [List.length_take]; omega
  by_cases e : k = k0
  · obtain ⟨g1, g2⟩ := leads_all (p := p) (Nat.le_trans j2 (i3 (by omega))) j1
    exact sizeL_le g1 g2
  · have hall : (Ts.take q).all (appT p) = true := by
      rw [List.all_eq_true]
      intro X hX
      obtain ⟨i, hi⟩ := List.getElem?_of_mem hX
      rw [List.getElem?_take] at hi
      split at hi
      · exact ha i X (by assumption) hi
      · cases hi
    obtain ⟨g1, g2⟩ := leads_fit (h3 k p e hp) hall j1
    exact sizeL_le (by omega) g2
theorem findT_none {B : Nat} : ∀ {l : List Pt} {A R : List VT}, everyL l = false → (∀ X ∈ A, X.size ≤ B) → 88 * A.length ≤ B → findT A l = some R → (∀ Y ∈ R, Y.size ≤ B) ∧ 88 * R.length ≤ B
  | [], A, R, _, hb, hl, h => by cases h; exact ⟨hb, hl⟩
  | p :: l, A, R, he, hb, hl, h => by
    have he' : (p.kind == 3) = false ∧ everyL l = false := by simpa [everyL] using he
    simp only [findT] at h
    split at h
    · rename_i hall
      obtain ⟨g1, g2⟩ := leads_fit he'.1 hall hb
      exact findT_none he'.2 g2 (by omega) h
    · cases h
theorem findT_max {B : Nat} : ∀ {l : List Pt} {A R : List VT} {k0 : Nat}, MaxAll l k0 → 88 ≤ B → (∀ X ∈ A, X.size ≤ B) → A.length ≤ 1 → findT A l = some R → (∀ Y ∈ R, Y.size ≤ B) ∧ 88 * R.length ≤ B
  | [], A, R, _, _, hB, hb, hl, h => by cases h; exact ⟨hb, by omega⟩
  | p :: l, A, R, k0, h3, hB, hb, hl, h => by
    simp only [findT] at h
    split at h
    · rename_i hall
      cases k0 with
      | zero =>
        have he : everyL l = false := by
          unfold everyL
          rw [List.any_eq_false]
          intro q hq
          obtain ⟨i, hi⟩ := List.getElem?_of_mem hq
          have := h3 (i + 1) q (by omega) (by simpa using hi)
          simpa using this
        obtain ⟨g1, g2⟩ := leads_all (p := p) hl hb
        exact findT_none he g2 g1 h
      | succ j =>
        obtain ⟨g1, g2⟩ := leads_fit (h3 0 p (by omega) rfl) hall hb
        exact findT_max (k0 := j) (fun i q hi hq => h3 (i + 1) q (by omega) (by simpa using hq)) hB g2 (by omega) h
    · cases h
theorem findR_max {T : VT} {L : List Pt} {k0 : Nat} (h3 : MaxAll L k0) (h : T.size ≤ 140737488351232) : (∀ Y ∈ findR T L, Y.size ≤ 140737488351232) ∧ 88 * (findR T L).length ≤ 140737488351232 := by
  unfold findR
  split
  · cases hf : findT [T] L with
    | none => simp
    | some R => simpa using findT_max h3 (by omega) (by simpa using h) (by simp) hf
  · simp
theorem AdSt.max {L : List Pt} {z : Int} {k : Nat} (h : AdSt L z k) (hk : L.length ≤ k) : ∃ k0, MaxAll L k0 := by
  rcases h with ⟨_, h⟩ | ⟨q, _, hq, h1, _, h2⟩
  · exact ⟨k, fun i p hi hp => h i p (by have := (List.getElem?_eq_some_iff.1 hp).1; omega) hp⟩
  · refine ⟨q, fun i p hi hp => ?_⟩
    have hl := (List.getElem?_eq_some_iff.1 hp).1
    rcases Nat.lt_or_gt_of_ne hi with h0 | h0
    · exact h1 i p h0 hp
    · exact h2 i p h0 (by omega) hp

set_option maxRecDepth 100000 in
set_option maxHeartbeats 16000000 in
theorem lawAdr (v : VC) (T : VT) (S : Nat → Prop) (n : Nat) (A : Option Addr) (m c : Nat) (L : List Pt) {w : World} (hsz : T.size ≤ 140737488351232) (h : VAt w S n v T) (ha : Pts w A m L) (hcap : m ≤ c) (hs : Std w) : Calls Tryd.prog 5 #[.agg #[.int .i64 v.k, .int .i64 v.i, .int .i64 v.s, .string v.t, .slice v.la v.ln v.lc, .slice v.fa v.fn v.fc], .slice A m c] w fun e w' => e = .returned (.bool true) ∧ Only Nobody w w' := by
  have HV := Lib.hid h
  have HP := Lib.hid ha
  have HS := Lib.hid hs
  have HSZ := Lib.hid hsz
  have HCAP := Lib.hid hcap
  have HOA : Hid (Only Nobody w (w.alloc (.cells #[.int .i64 v.k, .int .i64 v.i, .int .i64 v.s, .string v.t, .slice v.la v.ln v.lc, .slice v.fa v.fn v.fc] 25))) := Lib.hid ((Only.refl _ _).alloc _)
  have HBV : Hid (∀ w', Only Nobody (w.alloc (.cells #[.int .i64 v.k, .int .i64 v.i, .int .i64 v.s, .string v.t, .slice v.la v.ln v.lc, .slice v.fa v.fn v.fc] 25)) w' → w'.cell? ⟨w.heap.size, 0, none⟩ = some (.int .i64 v.k) ∧ w'.cell? ⟨w.heap.size, 1, none⟩ = some (.int .i64 v.i) ∧ w'.cell? ⟨w.heap.size, 2, none⟩ = some (.int .i64 v.s) ∧ w'.cell? ⟨w.heap.size, 3, none⟩ = some (.string v.t) ∧ w'.cell? ⟨w.heap.size, 4, none⟩ = some (.slice v.la v.ln v.lc) ∧ w'.cell? ⟨w.heap.size, 5, none⟩ = some (.slice v.fa v.fn v.fc)) := Lib.hid fun w' h' => by
    have hb := h'.blk (Blk.new w 25 #[.int .i64 v.k, .int .i64 v.i, .int .i64 v.s, .string v.t, .slice v.la v.ln v.lc, .slice v.fa v.fn v.fc]) (fun x => x)
    exact ⟨hb.cell 0, hb.cell 1, hb.cell 2, hb.cell 3, hb.cell 4, hb.cell 5⟩
  clear h ha hs hsz hcap
  go_enter Tryd.func5, Tryd.ntmps5
  go_wp2_with fail
  refine (known_any _ (HS.out.same HOA.out)).mono ?_
  rintro e w1 ⟨rfl, ho⟩
  have HX1 := Lib.hid ho
  have HO1 := Lib.hid (HOA.out.trans ho)
  clear ho
  obtain ⟨b0, b1, b2, b3, b4, b5⟩ := HBV.out w1 HX1.out
  go_wp2_with fail
  refine (small_any v T S n _ HSZ.out (HV.out.same HO1.out)).mono ?_
  rintro e w2 ⟨bsm, rfl, ho⟩
  have HX2 := Lib.hid (HX1.out.trans ho)
  have HO2 := Lib.hid (HO1.out.trans ho)
  clear ho b0 b1 b2 b3 b4 b5
  cases bsm with
  | false =>
    go_wp2_with fail
    refine (known_any _ (HS.out.same HO2.out)).mono ?_
    rintro e w3 ⟨rfl, ho⟩
    have HO3 := Lib.hid (HO2.out.trans ho)
    clear ho
    go_wp2_with fail
    go_ret
    exact ⟨rfl, HO3.out⟩
  | true =>
    by_cases hm20 : 20 < m
    · have hmI : (20 : Int) < (m : Int) := by omega
      go_wp2_with fail
      refine (known_any _ (HS.out.same HO2.out)).mono ?_
      rintro e w3 ⟨rfl, ho⟩
      have HO3 := Lib.hid (HO2.out.trans ho)
      clear ho
      go_wp2_with fail
      go_ret
      exact ⟨rfl, HO3.out⟩
    · have hmI : ¬ (20 : Int) < (m : Int) := by omega
      have hm : m ≤ 1000 := by omega
      go_wp2_with fail
      go_loopw [5, 6] (fun a i wx => ∃ (z : Int) (k : Nat), a = .int .i64 z ∧ i = .int .i64 (k : Int) ∧ k ≤ m ∧ Hid (AdSt L z k) ∧ Hid (Only Nobody w2 wx)) (fun _ i _ => m - (intOf i).toNat)
      case atStart => exact ⟨-1, 0, rfl, rfl, Nat.zero_le _, Lib.hid (AdSt.start L), Lib.hid (Only.refl _ _)⟩
      case round =>
        obtain ⟨z, k, rfl, rfl, hk, HC, HON⟩ := hrel
        by_cases hkm : k < m
        · have hkI : (k : Int) < (m : Int) := by omega
          have hk0 : (0 : Int) ≤ (k : Int) := by omega
          obtain ⟨ad, rfl⟩ := HP.out.some_ (by omega)
          obtain ⟨⟨k1, i1, n1⟩, hx⟩ := HP.out.get hkm
          obtain ⟨a0, a1, a2⟩ := (HP.out.same (HO2.out.trans HON.out)).at_ hx
          dsimp only at a0 a1 a2
          have HX := Lib.hid hx
          clear hx
          cases hb : (k1 == 3) with
          | true =>
            by_cases hz : 0 ≤ z
            · go_wp2_with fail
              go_ret
              exact ⟨rfl, HO2.out.trans HON.out⟩
            · have HC2 := Lib.hid (HC.out.found hz HX.out (by simpa using hb))
              go_wp2_with fail
              go_roundw
              case rel => first | exact ⟨k, k + 1, rfl, by go_num, by omega, HC2, HON⟩ | ((repeat apply Exists.intro); exact ⟨⟨k, k + 1, rfl, by go_num, by omega, HC2, HON⟩, rfl⟩)
              case measure => simp [intOf]; omega
          | false =>
            have HC2 := Lib.hid (HC.out.next HX.out hb)
            go_wp2_with fail
            go_roundw
            case rel => first | exact ⟨z, k + 1, rfl, by go_num, by omega, HC2, HON⟩ | ((repeat apply Exists.intro); exact ⟨⟨z, k + 1, rfl, by go_num, by omega, HC2, HON⟩, rfl⟩)
            case measure => simp [intOf]; omega
        · obtain rfl : m = k := by omega
          obtain ⟨wa, rfl⟩ : ∃ wa, wa = wr := ⟨_, rfl⟩
          obtain ⟨k0, hk0⟩ := HC.out.max (by rw [HP.out.len]; exact Nat.le_refl _)
          have HFIT : Hid (Fit T L) := Lib.hid (fit_max hk0 HSZ.out)
          have HFR1 : Hid ((∀ Y ∈ findR T L, Y.size ≤ 140737488351232) ∧ 88 * (findR T L).length ≤ 140737488351232) := Lib.hid (findR_max hk0 HSZ.out)
          clear hk0
          have HOA2 := Lib.hid (HO2.out.trans HON.out)
          have HXA := Lib.hid (HX2.out.trans HON.out)
          clear hk hkm HX1 HO1 HX2 HO2 HON
          have HOB : Hid (Only Nobody w wa) := Lib.hid (HOA2.out)
          have HXB : Hid (Only Nobody (w.alloc (.cells #[.int .i64 v.k, .int .i64 v.i, .int .i64 v.s, .string v.t, .slice v.la v.ln v.lc, .slice v.fa v.fn v.fc] 25)) wa) := Lib.hid (HXA.out)
          have HOX : Hid (Only Nobody wa wa) := Lib.hid (Only.refl _ _)
          have HN2 : Hid (wa.heap.size ≤ wa.heap.size) := Lib.hid (Nat.le_refl _)
          have HZ2 : Hid (∀ w', Only Nobody (wa.alloc (.cells #[.int .i64 0, .int .i64 0, .int .i64 0, .string ⟨#[]⟩, .slice none 0 0, .slice none 0 0] 25)) w' → Blk w' wa.heap.size 25 #[.int .i64 0, .int .i64 0, .int .i64 0, .string ⟨#[]⟩, .slice none 0 0, .slice none 0 0]) := Lib.hid fun w' h' => h'.blk (Blk.new wa _ _) (fun x => x)
          obtain ⟨b0, b1, b2, b3, b4, b5⟩ := HBV.out wa HXB.out
          go_upto_region 11 with fail
          go_cut [7, 8] (fun y f wx => ∃ (Ay : Option Addr) (cy : Nat), y = .slice Ay (findR T L).length cy ∧ f = .int .i64 (findE T L) ∧ VRow wx Any_ n Ay (findR T L).length (findR T L) ∧ (findR T L).length ≤ cy ∧ Only Nobody wa wx)
          case first =>
            go_region_held3 (fun w' => w'.cell? ⟨w.heap.size, 0, none⟩ = some (.int .i64 v.k) ∧ w'.cell? ⟨w.heap.size, 1, none⟩ = some (.int .i64 v.i) ∧ w'.cell? ⟨w.heap.size, 2, none⟩ = some (.int .i64 v.s) ∧ w'.cell? ⟨w.heap.size, 3, none⟩ = some (.string v.t) ∧ w'.cell? ⟨w.heap.size, 4, none⟩ = some (.slice v.la v.ln v.lc) ∧ w'.cell? ⟨w.heap.size, 5, none⟩ = some (.slice v.fa v.fn v.fc)) (exact HBV.out _ (HXB.out.trans (by repeat (first | with_reducible exact HOX.out | with_reducible exact Only.refl _ _ | with_reducible refine Only.drew ?_ | with_reducible refine Only.alloc ?_ _ | with_reducible refine Only.setCell ?_ (Or.inr ?_) _ | exact HN4.out | exact HN3.out | exact HN2.out)))) (first
              | (go_at_call 11; refine (own_pts A m c L _ hm (HP.out.same (HOB.out.trans (by repeat (first | with_reducible exact HOX.out | with_reducible exact Only.refl _ _ | with_reducible refine Only.drew ?_ | with_reducible refine Only.alloc ?_ _ | with_reducible refine Only.setCell ?_ (Or.inr ?_) _ | exact HN4.out | exact HN3.out | exact HN2.out))))).mono ?_; rintro e w3 ⟨Y3, s3, rfl, hp3, ho3⟩; have HP3 := Lib.hid hp3; have HZ3 : Hid (∀ w', Only Nobody (w3.alloc (.cells #[.int .i64 0, .int .i64 0, .int .i64 0, .string ⟨#[]⟩, .slice none 0 0, .slice none 0 0] 25)) w' → Blk w' w3.heap.size 25 #[.int .i64 0, .int .i64 0, .int .i64 0, .string ⟨#[]⟩, .slice none 0 0, .slice none 0 0]) := Lib.hid fun w' h' => h'.blk (Blk.new w3 _ _) (fun x => x); (first | (with_reducible have HBQ := Lib.hid (HZ2.out w3 ho3)) | (have HBQ := Lib.hid (HZ2.out w3 (Only.trans (Only.refl _ _).drew ho3))) | skip); have HOX : Hid (Only Nobody wa w3) := Lib.hid (Only.trans (by repeat (first | with_reducible exact HOX.out | with_reducible exact Only.refl _ _ | with_reducible refine Only.drew ?_ | with_reducible refine Only.alloc ?_ _ | with_reducible refine Only.setCell ?_ (Or.inr ?_) _ | exact HN4.out | exact HN3.out | exact HN2.out)) ho3); have HN3 : Hid (wa.heap.size ≤ w3.heap.size) := Lib.hid HOX.out.size; clear hp3 ho3)
              | (go_at_call 15; refine (find_any v T S n Y3 m s3 L _ HFIT.out (HV.out.same (HOB.out.trans (by repeat (first | with_reducible exact HOX.out | with_reducible exact Only.refl _ _ | with_reducible refine Only.drew ?_ | with_reducible refine Only.alloc ?_ _ | with_reducible refine Only.setCell ?_ (Or.inr ?_) _ | exact HN4.out | exact HN3.out | exact HN2.out)))) (HP3.out.same (by repeat (first | with_reducible exact Only.refl _ _ | with_reducible refine Only.drew ?_ | with_reducible refine Only.alloc ?_ _))) hm (HS.out.same (HOB.out.trans (by repeat (first | with_reducible exact HOX.out | with_reducible exact Only.refl _ _ | with_reducible refine Only.drew ?_ | with_reducible refine Only.alloc ?_ _ | with_reducible refine Only.setCell ?_ (Or.inr ?_) _ | exact HN4.out | exact HN3.out | exact HN2.out)))).tab).mono ?_; rintro e w4 ⟨Af, cf, rfl, hrow, hlec, ho4⟩; have HROW := Lib.hid hrow; have HLEC := Lib.hid hlec; have HOX : Hid (Only Nobody wa w4) := Lib.hid (Only.trans (by repeat (first | with_reducible exact HOX.out | with_reducible exact Only.refl _ _ | with_reducible refine Only.drew ?_ | with_reducible refine Only.alloc ?_ _ | with_reducible refine Only.setCell ?_ (Or.inr ?_) _ | exact HN4.out | exact HN3.out | exact HN2.out)) ho4); have HN4 : Hid (wa.heap.size ≤ w4.heap.size) := Lib.hid HOX.out.size; clear hrow hlec ho4))
            all_goals
              go_wp2_with fail
              go_meet
              exact ⟨_, _, rfl, rfl, HROW.out.any, HLEC.out, HOX.out⟩
          case rest =>
            obtain ⟨Ay, cy, rfl, rfl, hrow, hlec, hox⟩ := hcut
            obtain ⟨wb, rfl⟩ : ∃ wb, wb = wc := ⟨_, rfl⟩
            have HROW := Lib.hid hrow
            have HLEC := Lib.hid hlec
            have HOB2 := Lib.hid (HOA2.out.trans hox)
            have HXB2 := Lib.hid (HXA.out.trans hox)
            clear hrow hlec hox b0 b1 b2 b3 b4 b5 HOX HN2 HZ2 HOB HXB
            by_cases hz : 0 ≤ z
            · have hzI : ¬ z < 0 := by omega
              by_cases hE : findE T L = 0
              · have hE0 : (findE T L != 0) = false := by simp [hE]
                obtain ⟨q, rfl, hqm, hone⟩ := HC.out.one (by rw [HP.out.len]; exact Nat.le_refl _) hz
                obtain ⟨hok, hokt, hcase⟩ := adr_list hone hE
                have HONE := Lib.hid hone
                have HOK := Lib.hid hok
                have HCASE := Lib.hid hcase
                have hq1000 : q ≤ 1000 := by omega
                have hqc : q ≤ c := by have := HCAP.out; omega
                have hqcI : (q : Int) ≤ (c : Int) := by omega
                have HPT := Lib.hid (HP.out.take_ (q := q) (by omega))
                obtain ⟨ad, rfl⟩ := HP.out.some_ (by omega)
                clear hone hok hokt hcase
                have HOB : Hid (Only Nobody w wb) := Lib.hid (HOB2.out)
                have HXB : Hid (Only Nobody (w.alloc (.cells #[.int .i64 v.k, .int .i64 v.i, .int .i64 v.s, .string v.t, .slice v.la v.ln v.lc, .slice v.fa v.fn v.fc] 25)) wb) := Lib.hid (HXB2.out)
                have HOX : Hid (Only Nobody wb wb) := Lib.hid (Only.refl _ _)
                have HN2 : Hid (wb.heap.size ≤ wb.heap.size) := Lib.hid (Nat.le_refl _)
                have HZ2 : Hid (∀ w', Only Nobody (wb.alloc (.cells #[.int .i64 0, .int .i64 0, .int .i64 0, .string ⟨#[]⟩, .slice none 0 0, .slice none 0 0] 25)) w' → Blk w' wb.heap.size 25 #[.int .i64 0, .int .i64 0, .int .i64 0, .string ⟨#[]⟩, .slice none 0 0, .slice none 0 0]) := Lib.hid fun w' h' => h'.blk (Blk.new wb _ _) (fun x => x)
                obtain ⟨b0, b1, b2, b3, b4, b5⟩ := HBV.out wb HXB.out
                have hq0 : (0 : Int) ≤ (q : Int) := by omega
                go_upto_region 14 with fail
                clear hE hE0
                go_cut [9, 10] from 59 to 67 (fun x e wx => ∃ (vx : VC) (Y : Nat), x = .pointer (some ⟨Y, 0, none⟩) ∧ e = .int .i64 (findE T (L.take q)) ∧ Blk wx Y 25 #[.int .i64 vx.k, .int .i64 vx.i, .int .i64 vx.s, .string vx.t, .slice vx.la vx.ln vx.lc, .slice vx.fa vx.fn vx.fc] ∧ VAt wx Any_ (n + 1) vx (getV T (L.take q)) ∧ Only Nobody wb wx)
                case first =>
                  go_region_held3 (fun w' => w'.cell? ⟨w.heap.size, 0, none⟩ = some (.int .i64 v.k) ∧ w'.cell? ⟨w.heap.size, 1, none⟩ = some (.int .i64 v.i) ∧ w'.cell? ⟨w.heap.size, 2, none⟩ = some (.int .i64 v.s) ∧ w'.cell? ⟨w.heap.size, 3, none⟩ = some (.string v.t) ∧ w'.cell? ⟨w.heap.size, 4, none⟩ = some (.slice v.la v.ln v.lc) ∧ w'.cell? ⟨w.heap.size, 5, none⟩ = some (.slice v.fa v.fn v.fc)) (exact HBV.out _ (HXB.out.trans (by repeat (first | with_reducible exact HOX.out | with_reducible exact Only.refl _ _ | with_reducible refine Only.drew ?_ | with_reducible refine Only.alloc ?_ _ | with_reducible refine Only.setCell ?_ (Or.inr ?_) _ | exact HN4.out | exact HN3.out | exact HN2.out)))) (first
                    | (go_at_call 11; refine (own_pts (some ad) q c (L.take q) _ hq1000 (HPT.out.same (HOB.out.trans (by repeat (first | with_reducible exact HOX.out | with_reducible exact Only.refl _ _ | with_reducible refine Only.drew ?_ | with_reducible refine Only.alloc ?_ _ | with_reducible refine Only.setCell ?_ (Or.inr ?_) _ | exact HN4.out | exact HN3.out | exact HN2.out))))).mono ?_; rintro e w3 ⟨Y3, s3, rfl, hp3, ho3⟩; have HP3 := Lib.hid hp3; have HZ3 : Hid (∀ w', Only Nobody (w3.alloc (.cells #[.int .i64 0, .int .i64 0, .int .i64 0, .string ⟨#[]⟩, .slice none 0 0, .slice none 0 0] 25)) w' → Blk w' w3.heap.size 25 #[.int .i64 0, .int .i64 0, .int .i64 0, .string ⟨#[]⟩, .slice none 0 0, .slice none 0 0]) := Lib.hid fun w' h' => h'.blk (Blk.new w3 _ _) (fun x => x); (first | (with_reducible have HBQ := Lib.hid (HZ2.out w3 ho3)) | (have HBQ := Lib.hid (HZ2.out w3 (Only.trans (Only.refl _ _).drew ho3))) | skip); have HOX : Hid (Only Nobody wb w3) := Lib.hid (Only.trans (by repeat (first | with_reducible exact HOX.out | with_reducible exact Only.refl _ _ | with_reducible refine Only.drew ?_ | with_reducible refine Only.alloc ?_ _ | with_reducible refine Only.setCell ?_ (Or.inr ?_) _ | exact HN4.out | exact HN3.out | exact HN2.out)) ho3); have HN3 : Hid (wb.heap.size ≤ w3.heap.size) := Lib.hid HOX.out.size; clear hp3 ho3)
                    | (go_at_call 13; refine (get_any v T S n Y3 q s3 (L.take q) _ (fit_one (everyL_take HONE.out.1) HSZ.out) (HV.out.same (HOB.out.trans (by repeat (first | with_reducible exact HOX.out | with_reducible exact Only.refl _ _ | with_reducible refine Only.drew ?_ | with_reducible refine Only.alloc ?_ _ | with_reducible refine Only.setCell ?_ (Or.inr ?_) _ | exact HN4.out | exact HN3.out | exact HN2.out)))) (HP3.out.same (by repeat (first | with_reducible exact Only.refl _ _ | with_reducible refine Only.drew ?_ | with_reducible refine Only.alloc ?_ _))) hq1000 (HS.out.same (HOB.out.trans (by repeat (first | with_reducible exact HOX.out | with_reducible exact Only.refl _ _ | with_reducible refine Only.drew ?_ | with_reducible refine Only.alloc ?_ _ | with_reducible refine Only.setCell ?_ (Or.inr ?_) _ | exact HN4.out | exact HN3.out | exact HN2.out)))).tab).mono ?_; rintro e w4 ⟨vx, rfl, hvx, ho4⟩; (first | ((with_reducible have HBK := Lib.hid (HZ3.out w4 ho4)); have r0 : w4.cell? ⟨w3.heap.size, 0, none⟩ = some (.int .i64 0) := HBK.out.cell 0; have f0 : w4.frozen? ⟨w3.heap.size, 0, none⟩ = false := HBK.out.frozen 0; have r1 : w4.cell? ⟨w3.heap.size, 1, none⟩ = some (.int .i64 0) := HBK.out.cell 1; have f1 : w4.frozen? ⟨w3.heap.size, 1, none⟩ = false := HBK.out.frozen 1; have r2 : w4.cell? ⟨w3.heap.size, 2, none⟩ = some (.int .i64 0) := HBK.out.cell 2; have f2 : w4.frozen? ⟨w3.heap.size, 2, none⟩ = false := HBK.out.frozen 2; have r3 : w4.cell? ⟨w3.heap.size, 3, none⟩ = some (.string ⟨#[]⟩) := HBK.out.cell 3; have f3 : w4.frozen? ⟨w3.heap.size, 3, none⟩ = false := HBK.out.frozen 3; have r4 : w4.cell? ⟨w3.heap.size, 4, none⟩ = some (.slice none 0 0) := HBK.out.cell 4; have f4 : w4.frozen? ⟨w3.heap.size, 4, none⟩ = false := HBK.out.frozen 4; have r5 : w4.cell? ⟨w3.heap.size, 5, none⟩ = some (.slice none 0 0) := HBK.out.cell 5; have f5 : w4.frozen? ⟨w3.heap.size, 5, none⟩ = false := HBK.out.frozen 5; have HYV : Hid (VAt w4 (fun b => b ≠ w3.heap.size) (n + 1) vx _) := Lib.hid (hvx.mono fun b hb hs => (by intro e; subst e; simp at hs <;> omega))) | (have HBK := Lib.hid (ho4.blk HBQ.out (fun x => x)); have r0 : w4.cell? ⟨wb.heap.size, 0, none⟩ = some (.int .i64 0) := HBK.out.cell 0; have f0 : w4.frozen? ⟨wb.heap.size, 0, none⟩ = false := HBK.out.frozen 0; have r1 : w4.cell? ⟨wb.heap.size, 1, none⟩ = some (.int .i64 0) := HBK.out.cell 1; have f1 : w4.frozen? ⟨wb.heap.size, 1, none⟩ = false := HBK.out.frozen 1; have r2 : w4.cell? ⟨wb.heap.size, 2, none⟩ = some (.int .i64 0) := HBK.out.cell 2; have f2 : w4.frozen? ⟨wb.heap.size, 2, none⟩ = false := HBK.out.frozen 2; have r3 : w4.cell? ⟨wb.heap.size, 3, none⟩ = some (.string ⟨#[]⟩) := HBK.out.cell 3; have f3 : w4.frozen? ⟨wb.heap.size, 3, none⟩ = false := HBK.out.frozen 3; have r4 : w4.cell? ⟨wb.heap.size, 4, none⟩ = some (.slice none 0 0) := HBK.out.cell 4; have f4 : w4.frozen? ⟨wb.heap.size, 4, none⟩ = false := HBK.out.frozen 4; have r5 : w4.cell? ⟨wb.heap.size, 5, none⟩ = some (.slice none 0 0) := HBK.out.cell 5; have f5 : w4.frozen? ⟨wb.heap.size, 5, none⟩ = false := HBK.out.frozen 5; have HYV : Hid (VAt w4 (fun b => b ≠ wb.heap.size) (n + 1) vx _) := Lib.hid (hvx.mono fun b hb hs => (by intro e; subst e; have := HBQ.out.lt; omega))) | (have HBK := Lib.hid (Blk.new w4 25 #[.int .i64 0, .int .i64 0, .int .i64 0, .string ⟨#[]⟩, .slice none 0 0, .slice none 0 0]); have r0 : (w4.alloc (.cells #[.int .i64 0, .int .i64 0, .int .i64 0, .string ⟨#[]⟩, .slice none 0 0, .slice none 0 0] 25)).cell? ⟨w4.heap.size, 0, none⟩ = some (.int .i64 0) := HBK.out.cell 0; have f0 : (w4.alloc (.cells #[.int .i64 0, .int .i64 0, .int .i64 0, .string ⟨#[]⟩, .slice none 0 0, .slice none 0 0] 25)).frozen? ⟨w4.heap.size, 0, none⟩ = false := HBK.out.frozen 0; have r1 : (w4.alloc (.cells #[.int .i64 0, .int .i64 0, .int .i64 0, .string ⟨#[]⟩, .slice none 0 0, .slice none 0 0] 25)).cell? ⟨w4.heap.size, 1, none⟩ = some (.int .i64 0) := HBK.out.cell 1; have f1 : (w4.alloc (.cells #[.int .i64 0, .int .i64 0, .int .i64 0, .string ⟨#[]⟩, .slice none 0 0, .slice none 0 0] 25)).frozen? ⟨w4.heap.size, 1, none⟩ = false := HBK.out.frozen 1; have r2 : (w4.alloc (.cells #[.int .i64 0, .int .i64 0, .int .i64 0, .string ⟨#[]⟩, .slice none 0 0, .slice none 0 0] 25)).cell? ⟨w4.heap.size, 2, none⟩ = some (.int .i64 0) := HBK.out.cell 2; have f2 : (w4.alloc (.cells #[.int .i64 0, .int .i64 0, .int .i64 0, .string ⟨#[]⟩, .slice none 0 0, .slice none 0 0] 25)).frozen? ⟨w4.heap.size, 2, none⟩ = false := HBK.out.frozen 2; have r3 : (w4.alloc (.cells #[.int .i64 0, .int .i64 0, .int .i64 0, .string ⟨#[]⟩, .slice none 0 0, .slice none 0 0] 25)).cell? ⟨w4.heap.size, 3, none⟩ = some (.string ⟨#[]⟩) := HBK.out.cell 3; have f3 : (w4.alloc (.cells #[.int .i64 0, .int .i64 0, .int .i64 0, .string ⟨#[]⟩, .slice none 0 0, .slice none 0 0] 25)).frozen? ⟨w4.heap.size, 3, none⟩ = false := HBK.out.frozen 3; have r4 : (w4.alloc (.cells #[.int .i64 0, .int .i64 0, .int .i64 0, .string ⟨#[]⟩, .slice none 0 0, .slice none 0 0] 25)).cell? ⟨w4.heap.size, 4, none⟩ = some (.slice none 0 0) := HBK.out.cell 4; have f4 : (w4.alloc (.cells #[.int .i64 0, .int .i64 0, .int .i64 0, .string ⟨#[]⟩, .slice none 0 0, .slice none 0 0] 25)).frozen? ⟨w4.heap.size, 4, none⟩ = false := HBK.out.frozen 4; have r5 : (w4.alloc (.cells #[.int .i64 0, .int .i64 0, .int .i64 0, .string ⟨#[]⟩, .slice none 0 0, .slice none 0 0] 25)).cell? ⟨w4.heap.size, 5, none⟩ = some (.slice none 0 0) := HBK.out.cell 5; have f5 : (w4.alloc (.cells #[.int .i64 0, .int .i64 0, .int .i64 0, .string ⟨#[]⟩, .slice none 0 0, .slice none 0 0] 25)).frozen? ⟨w4.heap.size, 5, none⟩ = false := HBK.out.frozen 5; have HYV : Hid (VAt w4 (fun b => b ≠ w4.heap.size) (n + 1) vx _) := Lib.hid (hvx.mono fun b hb hs => (by omega)))); have HOX : Hid (Only Nobody wb w4) := Lib.hid (Only.trans (by repeat (first | with_reducible exact HOX.out | with_reducible exact Only.refl _ _ | with_reducible refine Only.drew ?_ | with_reducible refine Only.alloc ?_ _ | with_reducible refine Only.setCell ?_ (Or.inr ?_) _ | exact HN4.out | exact HN3.out | exact HN2.out)) ho4); have HN4 : Hid (wb.heap.size ≤ w4.heap.size) := Lib.hid HOX.out.size; clear hvx ho4))
                  all_goals
                    go_wp2_with fail
                    go_meet
                    refine ⟨vx, _, rfl, rfl, ?_, ?_, ?_⟩
                    · first
                        | with_reducible exact Blk.new _ _ _
                        | exact (((((HBK.out.set_ 0 _).set_ 1 _).set_ 2 _).set_ 3 _).set_ 4 _).set_ 5 _
                    · refine VAt.any (VAt.keep HYV.out ?_ (fun b hb e => hb e))
                      repeat (first | with_reducible exact Only.refl _ _ | with_reducible refine Only.drew ?_ | with_reducible refine Only.alloc ?_ _ | with_reducible refine Only.setCell ?_ (Or.inl ?_) _ | exact rfl)
                    · exact (by repeat (first | with_reducible exact HOX.out | with_reducible exact Only.refl _ _ | with_reducible refine Only.drew ?_ | with_reducible refine Only.alloc ?_ _ | with_reducible refine Only.setCell ?_ (Or.inr ?_) _ | exact HN4.out | exact HN3.out | exact HN2.out))
                case rest =>
                  obtain ⟨vx, Y, rfl, rfl, hbx, hvx, hox⟩ := hcut
                  obtain ⟨wd, rfl⟩ : ∃ wd, wd = wc := ⟨_, rfl⟩
                  have HBX : Hid (∀ w', Only Nobody wd w' → Blk w' Y 25 #[.int .i64 vx.k, .int .i64 vx.i, .int .i64 vx.s, .string vx.t, .slice vx.la vx.ln vx.lc, .slice vx.fa vx.fn vx.fc]) := Lib.hid fun w' h' => h'.blk hbx (fun x => x)
                  have HXV := Lib.hid hvx
                  have HBD := Lib.hid hox
                  have HOD := Lib.hid (HOB2.out.trans hox)
                  have HXD := Lib.hid (HXB2.out.trans hox)
                  clear hbx hvx hox b0 b1 b2 b3 b4 b5 HOX HN2 HZ2 HOB HXB
                  rcases HCASE.out with ⟨h19, hR0⟩ | ⟨h0, hfr, hft, hk8⟩
                  · have hl0 : ((findR T L).length : Int) = 0 := by rw [hR0]; rfl
                    rw [h19]
                    go_wp2_with fail
                    go_ret
                    exact ⟨rfl, HOD.out⟩
                  · rw [h0]
                    obtain ⟨U, HU⟩ : ∃ U, Hid (getV T (L.take q) = U) := ⟨_, Lib.hid rfl⟩
                    rw [HU.out] at hfr hft hk8 HXV
                    have HFR := Lib.hid hfr
                    have HFT := Lib.hid hft
                    have HK8 := Lib.hid hk8
                    have hln : vx.ln = U.l.length := by
                      obtain ⟨_, ⟨V, hV, hA⟩, _⟩ := HXV.out
                      rw [← hV.len, hA.1]
                    clear hfr hft hk8
                    have p4 : wd.cell? ⟨Y, 4, none⟩ = some (.slice vx.la vx.ln vx.lc) := (HBX.out wd (Only.refl _ _)).cell 4
                    by_cases h256 : 256 < vx.ln
                    · have h256I : (256 : Int) < (vx.ln : Int) := by omega
                      go_wp2_with fail
                      go_ret
                      exact ⟨rfl, HOD.out⟩
                    · have h256I : ¬ (256 : Int) < (vx.ln : Int) := by omega
                      have hls : U.l.length ≤ 256 := by omega
                      go_wp2_with fail
                      go_loopw [11, 12] (fun a i wx => ∃ (N k : Nat), a = .int .i64 (N : Int) ∧ i = .int .i64 (k : Int) ∧ k ≤ vx.ln ∧ Hid (AdrN U (L.drop (q + 1)) k N) ∧ Hid (Only Nobody wd wx)) (fun _ i _ => vx.ln - (intOf i).toNat)
                      case atStart => exact ⟨0, 0, rfl, rfl, Nat.zero_le _, Lib.hid ⟨[], by rw [List.take_zero]; exact findT_nil _, rfl⟩, Lib.hid (Only.refl _ _)⟩
                      case round =>
                        obtain ⟨N, k, rfl, rfl, hk, HC2, HON2⟩ := hrel
                        clear p4
                        have p4 : wr.cell? ⟨Y, 4, none⟩ = some (.slice vx.la vx.ln vx.lc) := (HBX.out wr HON2.out).cell 4
                        by_cases hkl : k < vx.ln
                        · have hkI : (k : Int) < (vx.ln : Int) := by omega
                          have hk0 : (0 : Int) ≤ (k : Int) := by omega
                          obtain ⟨i0, hi0, hz0, hz1, hz2⟩ := info_parts infoRq
                          have HRD : Hid (∀ w', Only Nobody wr w' → Reads w' w'.heap.size 3 (some ad) m (ptVals L)) := Lib.hid fun w' h => (HP.out.same (HOD.out.trans (HON2.out.trans h))).rd
                          have HU1 := Lib.hid (one_pts L)
                          have HBY : Hid (0 + m ≤ maxLen ∧ (0 + m) * 32 ≤ 140737488355328) := Lib.hid (by unfold maxLen; omega)
                          go_upto_region 23 with fail
                          go_wp2_with (at_builtin; refine wpList_append_any _ rfl (.tmp 88) (.tmp 89) _ rfl wr.heap.size 44 i0 _ 3 32 Tryd.underlying26 hi0 hz0 hz1 hz2 rfl (by omega) (.slice (some ⟨wr.heap.size, 0, none⟩) 0 0) 0 [] rfl ⟨rfl, .inr ⟨wr.heap.size, 0, #[], rfl, Nat.le_refl _, heap_alloc_new wr _, Nat.le_refl _, by simp [maxLen], rfl, rfl⟩⟩ _ (some ad) m c (ptVals L) rfl (HRD.out _ (by repeat (first | with_reducible exact Only.refl _ _ | with_reducible refine Only.drew ?_ | with_reducible refine Only.alloc ?_ _))) HU1.out HBY.out.1 HBY.out.2 (by simp) ?_)
                          intro v6 w6 hown6 hgrow6 hat6
                          rcases hown6.2 with ⟨_, h0⟩ | ⟨g, cap, cur, rfl, hg, hcur, hmc, hmax, hcs, htk⟩
                          · omega
                          (try simp only [Nat.zero_add, List.nil_append] at htk ⊢)
                          have HO6 : Hid (Only Nobody wr w6) := Lib.hid ((Only.refl Nobody wr).trans_more (((Only.refl (More Nobody wr) wr).alloc _).trans (Only.of_grown hgrow6 (fun b e => .inr (by simp only [Value.ownBlock, Option.some.injEq] at e; omega)))))
                          have HBK6 : Hid (Blk w6 g 44 cur) := Lib.hid hcur
                          have HCUR : Hid (∀ j u, (ptVals L)[j]? = some u → cur[j]? = some u) := Lib.hid fun j u hu => cur_at htk (by simpa using hu)
                          have HGB := Lib.hid hg
                          clear hown6 hgrow6 hat6 hg hcur hcs htk
                          go_upto_region 24 with fail
                          obtain ⟨⟨k1, i1, n1⟩, hx⟩ := HP.out.get hqm
                          have t0 : w6.cell? ⟨g, q * 3, none⟩ = some (.int .i64 k1) := (HBK6.out.cell _).trans (HCUR.out _ _ (ptVals_get L q _ hx 0 _ rfl))
                          have t1 : w6.cell? ⟨g, q * 3 + 1, none⟩ = some (.int .i64 i1) := (HBK6.out.cell _).trans (HCUR.out _ _ (ptVals_get L q _ hx 1 _ rfl))
                          have t2 : w6.cell? ⟨g, q * 3 + 2, none⟩ = some (.string n1) := (HBK6.out.cell _).trans (HCUR.out _ _ (ptVals_get L q _ hx 2 _ rfl))
                          have f0 : w6.frozen? ⟨g, q * 3, none⟩ = false := HBK6.out.frozen _
                          have f1 : w6.frozen? ⟨g, q * 3 + 1, none⟩ = false := HBK6.out.frozen _
                          have f2 : w6.frozen? ⟨g, q * 3 + 2, none⟩ = false := HBK6.out.frozen _
                          go_wp2_with fail
                          obtain ⟨w7, HW7⟩ : ∃ w7, Hid (w7 = ((w6.setCell ⟨g, q * 3, none⟩ (.int .i64 2)).setCell ⟨g, q * 3 + 1, none⟩ (.int .i64 (k : Int))).setCell ⟨g, q * 3 + 2, none⟩ (.string ⟨#[]⟩)) := ⟨_, Lib.hid rfl⟩
                          rw [← HW7.out]
                          have HP7 : Hid (Pts w7 (some ⟨g, 0, none⟩) m (idxL L q k)) := Lib.hid (by rw [HW7.out]; exact pts_store HBK6.out HP.out.len HCUR.out hqm ⟨2, (k : Int), ⟨#[]⟩⟩)
                          have HR7 : Hid (Only Nobody wr w7) := Lib.hid (by rw [HW7.out]; exact ((HO6.out.setCell (p := ⟨g, q * 3, none⟩) (.inr HGB.out) _).setCell (p := ⟨g, q * 3 + 1, none⟩) (.inr HGB.out) _).setCell (p := ⟨g, q * 3 + 2, none⟩) (.inr HGB.out) _)
                          have HD7 := Lib.hid (HON2.out.trans HR7.out)
                          have HO7 := Lib.hid (HOD.out.trans HD7.out)
                          have HX7 := Lib.hid (HXD.out.trans HD7.out)
                          obtain ⟨X, hX⟩ : ∃ X, U.l[k]? = some X := ⟨_, List.getElem?_eq_getElem (by omega)⟩
                          obtain ⟨Yl, hY, hAN, hYy⟩ := HC2.out.step HFR.out hX
                          have HIX : Hid (okL (idxL L q k) = true → (Yl = [] ∧ findE T (idxL L q k) = 19) ∨ ∃ y, Yl = [y] ∧ findE T (idxL L q k) = 0 ∧ getV T (idxL L q k) = y) := Lib.hid fun h => adr_idx HONE.out (by rw [← HU.out]; exact HU.out ▸ HFT.out) HK8.out hX hY h
                          have HAN := Lib.hid hAN
                          have HYY := Lib.hid hYy
                          obtain ⟨M, HM⟩ : ∃ M, Hid (idxL L q k = M) := ⟨_, Lib.hid rfl⟩
                          have HFM : Hid (Fit T M) := Lib.hid (by rw [← HM.out]; exact fit_one (idx_parts HONE.out k).2 HSZ.out)
                          rw [HM.out] at HP7 HIX
                          clear hx t0 t1 t2 f0 f1 f2 HO6 HBK6 HCUR HGB HW7 hX hY hAN hYy HU1 HBY HRD hi0 hz0 hz1 hz2 p4

                          have HOB : Hid (Only Nobody w w7) := Lib.hid (HO7.out)
                          have HXB : Hid (Only Nobody (w.alloc (.cells #[.int .i64 v.k, .int .i64 v.i, .int .i64 v.s, .string v.t, .slice v.la v.ln v.lc, .slice v.fa v.fn v.fc] 25)) w7) := Lib.hid (HX7.out)
                          have HOX : Hid (Only Nobody w7 w7) := Lib.hid (Only.refl _ _)
                          have HN2 : Hid (w7.heap.size ≤ w7.heap.size) := Lib.hid (Nat.le_refl _)
                          have HZ2 : Hid (∀ w', Only Nobody (w7.alloc (.cells #[.int .i64 0, .int .i64 0, .int .i64 0, .string ⟨#[]⟩, .slice none 0 0, .slice none 0 0] 25)) w' → Blk w' w7.heap.size 25 #[.int .i64 0, .int .i64 0, .int .i64 0, .string ⟨#[]⟩, .slice none 0 0, .slice none 0 0]) := Lib.hid fun w' h' => h'.blk (Blk.new w7 _ _) (fun x => x)
                          obtain ⟨b0, b1, b2, b3, b4, b5⟩ := HBV.out w7 HXB.out
                          go_upto_region 25 with fail
                          go_cut [14, 15] from 81 to 130 (fun x e wx => ∃ (vy : VC) (Y2 : Nat), x = .pointer (some ⟨Y2, 0, none⟩) ∧ e = .int .i64 (findE T M) ∧ Blk wx Y2 25 #[.int .i64 vy.k, .int .i64 vy.i, .int .i64 vy.s, .string vy.t, .slice vy.la vy.ln vy.lc, .slice vy.fa vy.fn vy.fc] ∧ VAt wx Any_ (n + 1) vy (getV T M) ∧ Only Nobody w7 wx)
                          case first =>
                            go_region_held3 (fun w' => w'.cell? ⟨w.heap.size, 0, none⟩ = some (.int .i64 v.k) ∧ w'.cell? ⟨w.heap.size, 1, none⟩ = some (.int .i64 v.i) ∧ w'.cell? ⟨w.heap.size, 2, none⟩ = some (.int .i64 v.s) ∧ w'.cell? ⟨w.heap.size, 3, none⟩ = some (.string v.t) ∧ w'.cell? ⟨w.heap.size, 4, none⟩ = some (.slice v.la v.ln v.lc) ∧ w'.cell? ⟨w.heap.size, 5, none⟩ = some (.slice v.fa v.fn v.fc)) (exact HBV.out _ (HXB.out.trans (by repeat (first | with_reducible exact HOX.out | with_reducible exact Only.refl _ _ | with_reducible refine Only.drew ?_ | with_reducible refine Only.alloc ?_ _ | with_reducible refine Only.setCell ?_ (Or.inr ?_) _ | exact HN4.out | exact HN3.out | exact HN2.out)))) (first
                              | (go_at_call 11; refine (own_pts (some ⟨g, 0, none⟩) m cap M _ hm (HP7.out.same ((by repeat (first | with_reducible exact HOX.out | with_reducible exact Only.refl _ _ | with_reducible refine Only.drew ?_ | with_reducible refine Only.alloc ?_ _ | with_reducible refine Only.setCell ?_ (Or.inr ?_) _ | exact HN4.out | exact HN3.out | exact HN2.out))))).mono ?_; rintro e w3 ⟨Y3, s3, rfl, hp3, ho3⟩; have HP3 := Lib.hid hp3; have HZ3 : Hid (∀ w', Only Nobody (w3.alloc (.cells #[.int .i64 0, .int .i64 0, .int .i64 0, .string ⟨#[]⟩, .slice none 0 0, .slice none 0 0] 25)) w' → Blk w' w3.heap.size 25 #[.int .i64 0, .int .i64 0, .int .i64 0, .string ⟨#[]⟩, .slice none 0 0, .slice none 0 0]) := Lib.hid fun w' h' => h'.blk (Blk.new w3 _ _) (fun x => x); (first | (with_reducible have HBQ := Lib.hid (HZ2.out w3 ho3)) | (have HBQ := Lib.hid (HZ2.out w3 (Only.trans (Only.refl _ _).drew ho3))) | skip); have HOX : Hid (Only Nobody w7 w3) := Lib.hid (Only.trans (by repeat (first | with_reducible exact HOX.out | with_reducible exact Only.refl _ _ | with_reducible refine Only.drew ?_ | with_reducible refine Only.alloc ?_ _ | with_reducible refine Only.setCell ?_ (Or.inr ?_) _ | exact HN4.out | exact HN3.out | exact HN2.out)) ho3); have HN3 : Hid (w7.heap.size ≤ w3.heap.size) := Lib.hid HOX.out.size; clear hp3 ho3)
                              | (go_at_call 13; refine (get_any v T S n Y3 m s3 M _ HFM.out (HV.out.same (HOB.out.trans (by repeat (first | with_reducible exact HOX.out | with_reducible exact Only.refl _ _ | with_reducible refine Only.drew ?_ | with_reducible refine Only.alloc ?_ _ | with_reducible refine Only.setCell ?_ (Or.inr ?_) _ | exact HN4.out | exact HN3.out | exact HN2.out)))) (HP3.out.same (by repeat (first | with_reducible exact Only.refl _ _ | with_reducible refine Only.drew ?_ | with_reducible refine Only.alloc ?_ _))) hm (HS.out.same (HOB.out.trans (by repeat (first | with_reducible exact HOX.out | with_reducible exact Only.refl _ _ | with_reducible refine Only.drew ?_ | with_reducible refine Only.alloc ?_ _ | with_reducible refine Only.setCell ?_ (Or.inr ?_) _ | exact HN4.out | exact HN3.out | exact HN2.out)))).tab).mono ?_; rintro e w4 ⟨vx, rfl, hvx, ho4⟩; (first | ((with_reducible have HBK := Lib.hid (HZ3.out w4 ho4)); have r0 : w4.cell? ⟨w3.heap.size, 0, none⟩ = some (.int .i64 0) := HBK.out.cell 0; have f0 : w4.frozen? ⟨w3.heap.size, 0, none⟩ = false := HBK.out.frozen 0; have r1 : w4.cell? ⟨w3.heap.size, 1, none⟩ = some (.int .i64 0) := HBK.out.cell 1; have f1 : w4.frozen? ⟨w3.heap.size, 1, none⟩ = false := HBK.out.frozen 1; have r2 : w4.cell? ⟨w3.heap.size, 2, none⟩ = some (.int .i64 0) := HBK.out.cell 2; have f2 : w4.frozen? ⟨w3.heap.size, 2, none⟩ = false := HBK.out.frozen 2; have r3 : w4.cell? ⟨w3.heap.size, 3, none⟩ = some (.string ⟨#[]⟩) := HBK.out.cell 3; have f3 : w4.frozen? ⟨w3.heap.size, 3, none⟩ = false := HBK.out.frozen 3; have r4 : w4.cell? ⟨w3.heap.size, 4, none⟩ = some (.slice none 0 0) := HBK.out.cell 4; have f4 : w4.frozen? ⟨w3.heap.size, 4, none⟩ = false := HBK.out.frozen 4; have r5 : w4.cell? ⟨w3.heap.size, 5, none⟩ = some (.slice none 0 0) := HBK.out.cell 5; have f5 : w4.frozen? ⟨w3.heap.size, 5, none⟩ = false := HBK.out.frozen 5; have HYV : Hid (VAt w4 (fun b => b ≠ w3.heap.size) (n + 1) vx _) := Lib.hid (hvx.mono fun b hb hs => (by intro e; subst e; simp at hs <;> omega))) | (have HBK := Lib.hid (ho4.blk HBQ.out (fun x => x)); have r0 : w4.cell? ⟨w7.heap.size, 0, none⟩ = some (.int .i64 0) := HBK.out.cell 0; have f0 : w4.frozen? ⟨w7.heap.size, 0, none⟩ = false := HBK.out.frozen 0; have r1 : w4.cell? ⟨w7.heap.size, 1, none⟩ = some (.int .i64 0) := HBK.out.cell 1; have f1 : w4.frozen? ⟨w7.heap.size, 1, none⟩ = false := HBK.out.frozen 1; have r2 : w4.cell? ⟨w7.heap.size, 2, none⟩ = some (.int .i64 0) := HBK.out.cell 2; have f2 : w4.frozen? ⟨w7.heap.size, 2, none⟩ = false := HBK.out.frozen 2; have r3 : w4.cell? ⟨w7.heap.size, 3, none⟩ = some (.string ⟨#[]⟩) := HBK.out.cell 3; have f3 : w4.frozen? ⟨w7.heap.size, 3, none⟩ = false := HBK.out.frozen 3; have r4 : w4.cell? ⟨w7.heap.size, 4, none⟩ = some (.slice none 0 0) := HBK.out.cell 4; have f4 : w4.frozen? ⟨w7.heap.size, 4, none⟩ = false := HBK.out.frozen 4; have r5 : w4.cell? ⟨w7.heap.size, 5, none⟩ = some (.slice none 0 0) := HBK.out.cell 5; have f5 : w4.frozen? ⟨w7.heap.size, 5, none⟩ = false := HBK.out.frozen 5; have HYV : Hid (VAt w4 (fun b => b ≠ w7.heap.size) (n + 1) vx _) := Lib.hid (hvx.mono fun b hb hs => (by intro e; subst e; have := HBQ.out.lt; omega))) | (have HBK := Lib.hid (Blk.new w4 25 #[.int .i64 0, .int .i64 0, .int .i64 0, .string ⟨#[]⟩, .slice none 0 0, .slice none 0 0]); have r0 : (w4.alloc (.cells #[.int .i64 0, .int .i64 0, .int .i64 0, .string ⟨#[]⟩, .slice none 0 0, .slice none 0 0] 25)).cell? ⟨w4.heap.size, 0, none⟩ = some (.int .i64 0) := HBK.out.cell 0; have f0 : (w4.alloc (.cells #[.int .i64 0, .int .i64 0, .int .i64 0, .string ⟨#[]⟩, .slice none 0 0, .slice none 0 0] 25)).frozen? ⟨w4.heap.size, 0, none⟩ = false := HBK.out.frozen 0; have r1 : (w4.alloc (.cells #[.int .i64 0, .int .i64 0, .int .i64 0, .string ⟨#[]⟩, .slice none 0 0, .slice none 0 0] 25)).cell? ⟨w4.heap.size, 1, none⟩ = some (.int .i64 0) := HBK.out.cell 1; have f1 : (w4.alloc (.cells #[.int .i64 0, .int .i64 0, .int .i64 0, .string ⟨#[]⟩, .slice none 0 0, .slice none 0 0] 25)).frozen? ⟨w4.heap.size, 1, none⟩ = false := HBK.out.frozen 1; have r2 : (w4.alloc (.cells #[.int .i64 0, .int .i64 0, .int .i64 0, .string ⟨#[]⟩, .slice none 0 0, .slice none 0 0] 25)).cell? ⟨w4.heap.size, 2, none⟩ = some (.int .i64 0) := HBK.out.cell 2; have f2 : (w4.alloc (.cells #[.int .i64 0, .int .i64 0, .int .i64 0, .string ⟨#[]⟩, .slice none 0 0, .slice none 0 0] 25)).frozen? ⟨w4.heap.size, 2, none⟩ = false := HBK.out.frozen 2; have r3 : (w4.alloc (.cells #[.int .i64 0, .int .i64 0, .int .i64 0, .string ⟨#[]⟩, .slice none 0 0, .slice none 0 0] 25)).cell? ⟨w4.heap.size, 3, none⟩ = some (.string ⟨#[]⟩) := HBK.out.cell 3; have f3 : (w4.alloc (.cells #[.int .i64 0, .int .i64 0, .int .i64 0, .string ⟨#[]⟩, .slice none 0 0, .slice none 0 0] 25)).frozen? ⟨w4.heap.size, 3, none⟩ = false := HBK.out.frozen 3; have r4 : (w4.alloc (.cells #[.int .i64 0, .int .i64 0, .int .i64 0, .string ⟨#[]⟩, .slice none 0 0, .slice none 0 0] 25)).cell? ⟨w4.heap.size, 4, none⟩ = some (.slice none 0 0) := HBK.out.cell 4; have f4 : (w4.alloc (.cells #[.int .i64 0, .int .i64 0, .int .i64 0, .string ⟨#[]⟩, .slice none 0 0, .slice none 0 0] 25)).frozen? ⟨w4.heap.size, 4, none⟩ = false := HBK.out.frozen 4; have r5 : (w4.alloc (.cells #[.int .i64 0, .int .i64 0, .int .i64 0, .string ⟨#[]⟩, .slice none 0 0, .slice none 0 0] 25)).cell? ⟨w4.heap.size, 5, none⟩ = some (.slice none 0 0) := HBK.out.cell 5; have f5 : (w4.alloc (.cells #[.int .i64 0, .int .i64 0, .int .i64 0, .string ⟨#[]⟩, .slice none 0 0, .slice none 0 0] 25)).frozen? ⟨w4.heap.size, 5, none⟩ = false := HBK.out.frozen 5; have HYV : Hid (VAt w4 (fun b => b ≠ w4.heap.size) (n + 1) vx _) := Lib.hid (hvx.mono fun b hb hs => (by omega)))); have HOX : Hid (Only Nobody w7 w4) := Lib.hid (Only.trans (by repeat (first | with_reducible exact HOX.out | with_reducible exact Only.refl _ _ | with_reducible refine Only.drew ?_ | with_reducible refine Only.alloc ?_ _ | with_reducible refine Only.setCell ?_ (Or.inr ?_) _ | exact HN4.out | exact HN3.out | exact HN2.out)) ho4); have HN4 : Hid (w7.heap.size ≤ w4.heap.size) := Lib.hid HOX.out.size; clear hvx ho4))
                            all_goals
                              go_wp2_with fail
                              go_meet
                              refine ⟨vx, _, rfl, rfl, ?_, ?_, ?_⟩
                              · first
                                  | with_reducible exact Blk.new _ _ _
                                  | exact (((((HBK.out.set_ 0 _).set_ 1 _).set_ 2 _).set_ 3 _).set_ 4 _).set_ 5 _
                              · refine VAt.any (VAt.keep HYV.out ?_ (fun b hb e => hb e))
                                repeat (first | with_reducible exact Only.refl _ _ | with_reducible refine Only.drew ?_ | with_reducible refine Only.alloc ?_ _ | with_reducible refine Only.setCell ?_ (Or.inl ?_) _ | exact rfl)
                              · exact (by repeat (first | with_reducible exact HOX.out | with_reducible exact Only.refl _ _ | with_reducible refine Only.drew ?_ | with_reducible refine Only.alloc ?_ _ | with_reducible refine Only.setCell ?_ (Or.inr ?_) _ | exact HN4.out | exact HN3.out | exact HN2.out))
                          case rest =>
                            obtain ⟨vy, Y2, rfl, rfl, hby, hvy, hox⟩ := hcut
                            obtain ⟨w8, rfl⟩ : ∃ w8, w8 = wc := ⟨_, rfl⟩
                            have HBY : Hid (∀ w', Only Nobody w8 w' → Blk w' Y2 25 #[.int .i64 vy.k, .int .i64 vy.i, .int .i64 vy.s, .string vy.t, .slice vy.la vy.ln vy.lc, .slice vy.fa vy.fn vy.fc]) := Lib.hid fun w' h' => h'.blk hby (fun x => x)
                            have HYV := Lib.hid hvy
                            have HR8 := Lib.hid (HR7.out.trans hox)
                            have HD8 := Lib.hid (HD7.out.trans hox)
                            have HO8 := Lib.hid (HO7.out.trans hox)
                            have HP8 := Lib.hid (HP7.out.same hox)
                            clear hby hvy hox b0 b1 b2 b3 b4 b5 HOX HN2 HZ2 HOB HXB
                            go_wp2_with fail
                            refine (rtxt_any (some ⟨g, 0, none⟩) m cap M _ HP8.out).mono ?_
                            rintro e w9 ⟨s9, rfl, _, ho⟩
                            have HR9 := Lib.hid (HR8.out.trans ho)
                            have HD9 := Lib.hid (HD8.out.trans ho)
                            have HO9 := Lib.hid (HO8.out.trans ho)
                            have H89 := Lib.hid ho
                            have HWB9 := Lib.hid (HBD.out.trans HD9.out)
                            clear ho
                            cases hokM : okL M with
                            | false =>
                              go_wp2_with fail
                              go_ret
                              exact ⟨rfl, HO9.out⟩
                            | true =>
                              rcases HIX.out hokM with ⟨hY0, h19⟩ | ⟨y, hY1, hM0, hMy⟩
                              · rw [h19]
                                have HAN2 : Hid (AdrN U (L.drop (q + 1)) (k + 1) N) := Lib.hid (by have := HAN.out; rw [hY0] at this; exact this)
                                clear h19 hY0
                                go_wp2_with fail
                                go_roundw
                                case rel => first | exact ⟨N, k + 1, rfl, by go_num, by omega, HAN2, HD9⟩ | ((repeat apply Exists.intro); exact ⟨⟨N, k + 1, rfl, by go_num, by omega, HAN2, HD9⟩, rfl⟩)
                                case measure => simp [intOf]; omega
                              · rw [hM0]
                                have hRN := HYY.out y hY1
                                have hNl : N < (findR T L).length := (List.getElem?_eq_some_iff.1 hRN).1
                                have hNI : ¬ ((findR T L).length : Int) ≤ (N : Int) := by omega
                                have hNB : decide ((findR T L).length ≤ N) = false := by simp; omega
                                have hN0 : (0 : Int) ≤ (N : Int) := by omega
                                have hNI2 : (N : Int) < ((findR T L).length : Int) := by omega
                                have HAN2 : Hid (AdrN U (L.drop (q + 1)) (k + 1) (N + 1)) := Lib.hid (by have := HAN.out; rw [hY1] at this; exact this)
                                obtain ⟨Vy, HVY, HVA⟩ := HROW.out
                                obtain ⟨bd, rfl⟩ := HVY.some_ (by omega)
                                obtain ⟨p, hp⟩ := HVY.get hNl
                                obtain ⟨y', hy', hay⟩ := HVA.get hp
                                obtain rfl : y = y' := by rw [hRN] at hy'; injection hy'
                                have HXS : Hid (y.size ≤ 140737488351232) := Lib.hid (HFR1.out.1 y (List.mem_of_getElem? hRN))
                                have HRL : Hid ((findR T L).length ≤ 1599289640355) := Lib.hid (by have := HFR1.out.2; omega)
                                have HAX : Hid (∀ w', Only Nobody w9 w' → VAt w' Any_ (n + 1) p y) := Lib.hid fun w' h => (hay.up).same ((HWB9.out).trans h)
                                have HAX2 : Hid (∀ w', Only Nobody w9 w' → VAt w' Any_ (n + 1) vy y) := Lib.hid fun w' h => by
                                  have h1 := HYV.out
                                  rw [hMy] at h1
                                  exact h1.same (H89.out.trans h)
                                have HHC : Hid (∀ w', Only Nobody w9 w' → w'.cell? (bd.add (N * 6)) = some (.int .i64 p.k) ∧ w'.cell? ⟨(bd.add (N * 6)).block, (bd.add (N * 6)).off + 1, none⟩ = some (.int .i64 p.i) ∧ w'.cell? ⟨(bd.add (N * 6)).block, (bd.add (N * 6)).off + 2, none⟩ = some (.int .i64 p.s) ∧ w'.cell? ⟨(bd.add (N * 6)).block, (bd.add (N * 6)).off + 3, none⟩ = some (.string p.t) ∧ w'.cell? ⟨(bd.add (N * 6)).block, (bd.add (N * 6)).off + 4, none⟩ = some (.slice p.la p.ln p.lc) ∧ w'.cell? ⟨(bd.add (N * 6)).block, (bd.add (N * 6)).off + 5, none⟩ = some (.slice p.fa p.fn p.fc) ∧ w'.cell? ⟨Y2, 0, none⟩ = some (.int .i64 vy.k) ∧ w'.cell? ⟨Y2, 1, none⟩ = some (.int .i64 vy.i) ∧ w'.cell? ⟨Y2, 2, none⟩ = some (.int .i64 vy.s) ∧ w'.cell? ⟨Y2, 3, none⟩ = some (.string vy.t) ∧ w'.cell? ⟨Y2, 4, none⟩ = some (.slice vy.la vy.ln vy.lc) ∧ w'.cell? ⟨Y2, 5, none⟩ = some (.slice vy.fa vy.fn vy.fc)) := Lib.hid fun w' h => by
                                  have h1 := (HVY.same (HWB9.out.trans h)).vat hp
                                  have h2 := HBY.out w' (H89.out.trans h)
                                  exact ⟨h1.c0, h1.c1, h1.c2, h1.c3, h1.c4, h1.c5, h2.cell 0, h2.cell 1, h2.cell 2, h2.cell 3, h2.cell 4, h2.cell 5⟩
                                have hcc := HHC.out w9 (Only.refl _ _)
                                have hRl := HRL.out
                                clear hp hay hy' HVY HVA hRN hY1 hM0 hMy
                                go_upto_region 30 with fail
                                go_region_held3 (fun w' => w'.cell? (bd.add (N * 6)) = some (.int .i64 p.k) ∧ w'.cell? ⟨(bd.add (N * 6)).block, (bd.add (N * 6)).off + 1, none⟩ = some (.int .i64 p.i) ∧ w'.cell? ⟨(bd.add (N * 6)).block, (bd.add (N * 6)).off + 2, none⟩ = some (.int .i64 p.s) ∧ w'.cell? ⟨(bd.add (N * 6)).block, (bd.add (N * 6)).off + 3, none⟩ = some (.string p.t) ∧ w'.cell? ⟨(bd.add (N * 6)).block, (bd.add (N * 6)).off + 4, none⟩ = some (.slice p.la p.ln p.lc) ∧ w'.cell? ⟨(bd.add (N * 6)).block, (bd.add (N * 6)).off + 5, none⟩ = some (.slice p.fa p.fn p.fc) ∧ w'.cell? ⟨Y2, 0, none⟩ = some (.int .i64 vy.k) ∧ w'.cell? ⟨Y2, 1, none⟩ = some (.int .i64 vy.i) ∧ w'.cell? ⟨Y2, 2, none⟩ = some (.int .i64 vy.s) ∧ w'.cell? ⟨Y2, 3, none⟩ = some (.string vy.t) ∧ w'.cell? ⟨Y2, 4, none⟩ = some (.slice vy.la vy.ln vy.lc) ∧ w'.cell? ⟨Y2, 5, none⟩ = some (.slice vy.fa vy.fn vy.fc))
                                  (first | exact hcc | exact hcd | exact HHC.out _ (by repeat (first | with_reducible exact Only.refl _ _ | with_reducible refine Only.drew ?_ | with_reducible refine Only.alloc ?_ _)))
                                  (first | (go_at_call 14; refine (same_eq (n + 1) p vy y Any_ Any_ _ HXS.out (HAX.out _ (by repeat (first | with_reducible exact Only.refl _ _ | with_reducible refine Only.drew ?_ | with_reducible refine Only.alloc ?_ _))) (HAX2.out _ (by repeat (first | with_reducible exact Only.refl _ _ | with_reducible refine Only.drew ?_ | with_reducible refine Only.alloc ?_ _)))).mono ?_; rintro e wq ⟨rfl, ho⟩; have HOq : Hid (Only Nobody w9 wq) := Lib.hid (Only.trans (by repeat (first | with_reducible exact Only.refl _ _ | with_reducible refine Only.drew ?_ | with_reducible refine Only.alloc ?_ _)) ho); have hcd := HHC.out wq HOq.out; clear ho))
                                all_goals
                                  have HDn := Lib.hid (HD9.out.trans HOq.out)
                                  go_wp2_with fail
                                  go_roundw
                                  case rel => first | exact ⟨N + 1, k + 1, by go_num, by go_num, by omega, HAN2, HDn⟩ | ((repeat apply Exists.intro); exact ⟨⟨N + 1, k + 1, by go_num, by go_num, by omega, HAN2, HDn⟩, rfl⟩)
                                  case measure => simp [intOf]; omega
                        · obtain rfl : k = vx.ln := by omega
                          have hN : N = (findR T L).length := HC2.out.done HFR.out (by omega)
                          subst hN
                          go_wp2_with fail
                          go_ret
                          exact ⟨rfl, HOD.out.trans HON2.out⟩
              · have hE0 : (findE T L != 0) = true := by simp [hE]
                go_wp2_with fail
                go_ret
                exact ⟨rfl, HOB2.out⟩
            · have hzI : z < 0 := by omega
              go_wp2_with fail
              go_ret
              exact ⟨rfl, HOB2.out⟩
/-- The law as the claim wants it. -/
theorem lawAdrW (v : VC) (T : VT) (n : Nat) {w : World} (hsz : T.size ≤ 140737488351232) (h : VAt w (fun b => b < w.heap.size) n v T) (A : Option Addr) (m c : Nat) (L : List Pt) (ha : Pts w A m L) (hcap : m ≤ c) (hs : Std w) : Calls Tryd.prog 5 #[.agg #[.int .i64 v.k, .int .i64 v.i, .int .i64 v.s, .string v.t, .slice v.la v.ln v.lc, .slice v.fa v.fn v.fc], .slice A m c] w fun e w' => e = .returned (.bool true) ∧ Only Nobody w w' :=
  lawAdr v T _ n A m c L hsz h ha hcap hs
end Go.Proofs.YtdccckoelnnnoaaDoor
