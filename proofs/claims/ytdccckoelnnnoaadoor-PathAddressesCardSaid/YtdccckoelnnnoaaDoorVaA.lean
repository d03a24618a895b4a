/- Values: applies, every, field, lead. -/
import Derived.Test.YtdccckoelnnnoaaDoorVaP
import Derived.Test.YtdccckoelnnnoaaDoorPaL
namespace Go.Proofs.YtdccckoelnnnoaaDoor
open Go.RowKit
attribute [local go_sem ↓] Go.wp_at_zero Go.wp_at_succ
/-- The value has the cells of v. -/
def appB (p : Pt) (v : VC) : Bool := if p.kind = 1 then v.k == 9 else if p.kind = 4 then (v.k == 10) && ((v.ln : Int) == 1) else v.k == 8
set_option maxRecDepth 100000 in
set_option maxHeartbeats 4000000 in
theorem applies_any (k i : Int) (n : ByteArray) (v : VC) (w : World) : Calls Tryd.prog 38 #[.agg #[.int .i64 k, .int .i64 i, .string n], .agg #[.int .i64 v.k, .int .i64 v.i, .int .i64 v.s, .string v.t, .slice v.la v.ln v.lc, .slice v.fa v.fn v.fc]] w fun e w' => e = .returned (.bool (appB ⟨k, i, n⟩ v)) ∧ Only Nobody w w' := by
  by_cases hk : k = 1
  · subst hk
    have HF : Hid ((v.k == 9) = appB ⟨1, i, n⟩ v) := Lib.hid (by unfold appB; rfl)
    go_enter Tryd.func38, Tryd.ntmps38
    go_wp2_with fail
    go_ret
    exact ⟨ret_bool HF.out, ((Only.refl _ _).alloc _).alloc _⟩
  have hkb : (k == 1) = false := by simpa using hk
  by_cases hk4 : k = 4
  · subst hk4
    by_cases hv : v.k = 10
    · have hvb : (v.k == 10) = true := by simpa using hv
      have HF : Hid (((v.ln : Int) == 1) = appB ⟨4, i, n⟩ v) := Lib.hid (by unfold appB; simp [hv])
      clear hv
      go_enter Tryd.func38, Tryd.ntmps38
      go_wp2_with fail
      go_ret
      exact ⟨ret_bool HF.out, ((Only.refl _ _).alloc _).alloc _⟩
    · have hvb : (v.k == 10) = false := by simpa using hv
      have HF : Hid (false = appB ⟨4, i, n⟩ v) := Lib.hid (by unfold appB; simp [hv])
      clear hv
      go_enter Tryd.func38, Tryd.ntmps38
      go_wp2_with fail
      go_ret
      exact ⟨ret_bool HF.out, ((Only.refl _ _).alloc _).alloc _⟩
  have hkb4 : (k == 4) = false := by simpa using hk4
  have HF : Hid ((v.k == 8) = appB ⟨k, i, n⟩ v) := Lib.hid (by unfold appB; simp [hk, hk4])
  clear hk hk4
  go_enter Tryd.func38, Tryd.ntmps38
  go_wp2_with fail
  go_ret
  exact ⟨ret_bool HF.out, ((Only.refl _ _).alloc _).alloc _⟩

/-! every. -/
def everyL (l : List Pt) : Bool := l.any fun p => p.kind == 3
def NoAll (l : List Pt) (j : Nat) : Prop := ∀ i p, i < j → l[i]? = some p → (p.kind == 3) = false
theorem NoAll.next {l : List Pt} {j : Nat} {p : Pt} (h : NoAll l j) (h1 : l[j]? = some p) (h2 : (p.kind == 3) = false) : NoAll l (j + 1) := by
  intro i q hi hq
  by_cases e : i = j
  · subst e
    rw [h1] at hq
    injection hq with hq
    rw [← hq]; exact h2
  · exact h i q (by omega) hq
theorem everyL_no {l : List Pt} (h : NoAll l l.length) : everyL l = false := by
  unfold everyL
  rw [List.any_eq_false]
  intro p hp
  obtain ⟨i, hi, e⟩ := List.mem_iff_getElem.1 hp
  have := h i p hi (by rw [List.getElem?_eq_getElem hi, e])
  rw [this]; decide
theorem everyL_yes {l : List Pt} {j : Nat} {p : Pt} (h : l[j]? = some p) (hp : (p.kind == 3) = true) : everyL l = true := by
  unfold everyL
  rw [List.any_eq_true]
  exact ⟨p, List.mem_of_getElem? h, hp⟩
set_option maxRecDepth 100000 in
set_option maxHeartbeats 4000000 in
theorem every1_any (k i : Int) (n : ByteArray) (w : World) : Calls Tryd.prog 48 #[.agg #[.int .i64 k, .int .i64 i, .string n]] w fun e w' => e = .returned (.bool (k == 3)) ∧ Only Nobody w w' := by
  go_enter Tryd.func48, Tryd.ntmps48
  go_wp2_with fail
  go_ret
  exact ⟨rfl, (Only.refl _ _).alloc _⟩
def EvPost (L : List Pt) (w : World) (e : Ending) (w' : World) : Prop := ∃ j : Int, e = .returned (.int .i64 j) ∧ -1 ≤ j ∧ (decide (0 ≤ j)) = everyL L ∧ Only Nobody w w'
set_option maxRecDepth 100000 in
set_option maxHeartbeats 4000000 in
theorem indexAll_any (A : Option Addr) (n c : Nat) (L : List Pt) (hn : n ≤ 1000) (w : World) (h : Pts w A n L) : Calls Tryd.prog 63 #[.slice A n c, .func (.func 48) #[] #[]] w (EvPost L w) := by
  have HP := Lib.hid h
  clear h
  go_enter Tryd.func63, Tryd.ntmps63
  go_wp2_with fail
  go_loopw [8] (fun i wx => ∃ k : Nat, i = .int .i64 (k : Int) ∧ k ≤ n ∧ Hid (NoAll L k) ∧ Hid (Only Nobody w wx)) (fun i _ => n - (intOf i).toNat)
  case atStart => exact ⟨0, rfl, Nat.zero_le _, Lib.hid (fun _ _ h => absurd h (by omega)), Lib.hid (Only.refl _ _)⟩
  case round =>
    obtain ⟨k, rfl, hk, HC, HON⟩ := hrel
    by_cases hkm : k < n
    · have hkI : (k : Int) < (n : Int) := by omega
      have hk0 : (0 : Int) ≤ (k : Int) := by omega
      obtain ⟨ad, rfl⟩ := HP.out.some_ (by omega)
      obtain ⟨⟨k1, i1, n1⟩, hx⟩ := HP.out.get hkm
      obtain ⟨a0, a1, a2⟩ := (HP.out.same HON.out).at_ hx
      dsimp only at a0 a1 a2
      have HX := Lib.hid hx
      clear hx
      cases hb : (k1 == 3) with
      | true =>
        have HF : Hid (everyL L = true) := Lib.hid (everyL_yes HX.out hb)
        have HB := Lib.hid hb
        clear hb
        go_wp2_with fail
        refine (every1_any k1 i1 n1 _).mono ?_
        rw [HB.out]
        rintro e w1 ⟨rfl, ho⟩
        have HO := Lib.hid (HON.out.trans ho)
        clear ho
        go_wp2_with fail
        go_ret
        exact ⟨_, rfl, by omega, by rw [HF.out, decide_eq_true hk0], HO.out⟩
      | false =>
        have HC2 := Lib.hid (HC.out.next HX.out hb)
        have HB := Lib.hid hb
        clear hb
        go_wp2_with fail
        refine (every1_any k1 i1 n1 _).mono ?_
        rw [HB.out]
        rintro e w1 ⟨rfl, ho⟩
        have HO := Lib.hid (HON.out.trans ho)
        clear ho
        go_wp2_with fail
        go_roundw
        case rel => first | exact ⟨k + 1, by go_num, by omega, HC2, HO⟩ | ((repeat apply Exists.intro); exact ⟨⟨k + 1, by go_num, by omega, HC2, HO⟩, rfl⟩)
        case measure => simp [intOf]; omega
    · obtain rfl : k = n := by omega
      have HF : Hid (everyL L = false) := Lib.hid (everyL_no (by rw [HP.out.len]; exact HC.out))
      go_wp2_with fail
      go_ret
      exact ⟨_, rfl, by omega, by rw [HF.out]; rfl, HON.out⟩
set_option maxRecDepth 100000 in
set_option maxHeartbeats 4000000 in
theorem containsAll_any (A : Option Addr) (n c : Nat) (L : List Pt) (hn : n ≤ 1000) (w : World) (h : Pts w A n L) : Calls Tryd.prog 47 #[.slice A n c, .func (.func 48) #[] #[]] w fun e w' => e = .returned (.bool (everyL L)) ∧ Only Nobody w w' := by
  have HP := Lib.hid (indexAll_any A n c L hn w h)
  clear h
  go_enter Tryd.func47, Tryd.ntmps47
  go_wp2_with fail
  refine HP.out.mono ?_
  rintro e w1 ⟨j, rfl, hj, hd, ho⟩
  have HD := Lib.hid hd
  have HO := Lib.hid ho
  clear hd ho
  go_wp2_with fail
  go_ret
  exact ⟨ret_bool HD.out, HO.out⟩
set_option maxRecDepth 100000 in
set_option maxHeartbeats 4000000 in
theorem every_any (A : Option Addr) (n c : Nat) (L : List Pt) (hn : n ≤ 1000) (w : World) (h : Pts w A n L) : Calls Tryd.prog 29 #[.slice A n c] w fun e w' => e = .returned (.bool (everyL L)) ∧ Only Nobody w w' := by
  have HP := Lib.hid (containsAll_any A n c L hn w h)
  clear h
  go_enter Tryd.func29, Tryd.ntmps29
  go_wp2_with fail
  refine HP.out.mono ?_
  rintro e w1 ⟨rfl, ho⟩
  have HO := Lib.hid ho
  clear ho
  go_wp2_with fail
  go_ret
  exact ⟨rfl, HO.out⟩

/-! field: the first field with a name. -/
def isF (f : List (ByteArray × VT)) (n : ByteArray) : Nat → Prop := fun j => ∀ i x, i < j → f[i]? = some x → ¬ x.1 = n
def fieldL : List (ByteArray × VT) → ByteArray → Option Nat
  | [], _ => none
  | x :: l, n => if x.1 = n then some 0 else (fieldL l n).map (· + 1)
def fieldI (f : List (ByteArray × VT)) (n : ByteArray) : Int := match fieldL f n with
  | some j => (j : Int)
  | none => -1
theorem fieldL_hit : ∀ {f : List (ByteArray × VT)} {n : ByteArray} {j : Nat} {x : ByteArray × VT}, isF f n j → f[j]? = some x → x.1 = n → fieldL f n = some j
  | [], _, _, _, _, h, _ => by simp at h
  | y :: f, n, 0, x, _, h, hx => by
    simp at h
    subst h
    unfold fieldL
    rw [if_pos hx]
  | y :: f, n, j + 1, x, hn, h, hx => by
    unfold fieldL
    rw [if_neg (hn 0 y (by omega) rfl), fieldL_hit (j := j) (x := x) (fun i z hi hz => hn (i + 1) z (by omega) (by simpa using hz)) (by simpa using h) hx]
    rfl
theorem fieldL_none : ∀ {f : List (ByteArray × VT)} {n : ByteArray}, isF f n f.length → fieldL f n = none
  | [], _, _ => rfl
  | y :: f, n, hn => by
    unfold fieldL
    rw [if_neg (hn 0 y (by simp) rfl), fieldL_none (fun i z hi hz => hn (i + 1) z (by simp; omega) (by simpa using hz))]
    rfl
theorem isF.next {f : List (ByteArray × VT)} {n : ByteArray} {j : Nat} {x : ByteArray × VT} (h : isF f n j) (h1 : f[j]? = some x) (h2 : ¬ x.1 = n) : isF f n (j + 1) := by
  intro i q hi hq
  by_cases e : i = j
  · subst e
    rw [h1] at hq
    injection hq with hq
    rw [← hq]; exact h2
  · exact h i q (by omega) hq
/-- The seven cells of a field, as a walk writes their addresses. -/
structure FAt (w : World) (ad : Addr) (i : Nat) (o : FC) : Prop where
  c0 : w.cell? (ad.add (i * 7)) = some (.string o.n)
  c1 : w.cell? ⟨(ad.add (i * 7)).block, (ad.add (i * 7)).off + 1, none⟩ = some (.int .i64 o.v.k)
  c2 : w.cell? ⟨(ad.add (i * 7)).block, (ad.add (i * 7)).off + 2, none⟩ = some (.int .i64 o.v.i)
  c3 : w.cell? ⟨(ad.add (i * 7)).block, (ad.add (i * 7)).off + 3, none⟩ = some (.int .i64 o.v.s)
  c4 : w.cell? ⟨(ad.add (i * 7)).block, (ad.add (i * 7)).off + 4, none⟩ = some (.string o.v.t)
  c5 : w.cell? ⟨(ad.add (i * 7)).block, (ad.add (i * 7)).off + 5, none⟩ = some (.slice o.v.la o.v.ln o.v.lc)
  c6 : w.cell? ⟨(ad.add (i * 7)).block, (ad.add (i * 7)).off + 6, none⟩ = some (.slice o.v.fa o.v.fn o.v.fc)
/-- The six cells of a value. -/
structure VCell (w : World) (ad : Addr) (i : Nat) (o : VC) : Prop where
  c0 : w.cell? (ad.add (i * 6)) = some (.int .i64 o.k)
  c1 : w.cell? ⟨(ad.add (i * 6)).block, (ad.add (i * 6)).off + 1, none⟩ = some (.int .i64 o.i)
  c2 : w.cell? ⟨(ad.add (i * 6)).block, (ad.add (i * 6)).off + 2, none⟩ = some (.int .i64 o.s)
  c3 : w.cell? ⟨(ad.add (i * 6)).block, (ad.add (i * 6)).off + 3, none⟩ = some (.string o.t)
  c4 : w.cell? ⟨(ad.add (i * 6)).block, (ad.add (i * 6)).off + 4, none⟩ = some (.slice o.la o.ln o.lc)
  c5 : w.cell? ⟨(ad.add (i * 6)).block, (ad.add (i * 6)).off + 5, none⟩ = some (.slice o.fa o.fn o.fc)
section
variable {w w' : World} {S : Nat → Prop} {ad : Addr} {n i : Nat}
theorem RowA.fat {L : List FC} {o : FC} (h : RowA FC.vals 7 w S (some ad) n L) (hi : L[i]? = some o) : FAt w ad i o := by
  have hc := fun (j : Nat) (u : Value) (hu : o.vals[j]? = some u) => h.cell flen hi (j := j) hu
  refine ⟨hc 0 _ rfl, ?_, ?_, ?_, ?_, ?_, ?_⟩
  · rw [← add_offk ad _ 1 (by omega)]; exact hc 1 _ rfl
  · rw [← add_offk ad _ 2 (by omega)]; exact hc 2 _ rfl
  · rw [← add_offk ad _ 3 (by omega)]; exact hc 3 _ rfl
  · rw [← add_offk ad _ 4 (by omega)]; exact hc 4 _ rfl
  · rw [← add_offk ad _ 5 (by omega)]; exact hc 5 _ rfl
  · rw [← add_offk ad _ 6 (by omega)]; exact hc 6 _ rfl
theorem RowA.vat {L : List VC} {o : VC} (h : RowA VC.vals 6 w S (some ad) n L) (hi : L[i]? = some o) : VCell w ad i o := by
  have hc := fun (j : Nat) (u : Value) (hu : o.vals[j]? = some u) => h.cell vlen hi (j := j) hu
  refine ⟨hc 0 _ rfl, ?_, ?_, ?_, ?_, ?_⟩
  · rw [← add_offk ad _ 1 (by omega)]; exact hc 1 _ rfl
  · rw [← add_offk ad _ 2 (by omega)]; exact hc 2 _ rfl
  · rw [← add_offk ad _ 3 (by omega)]; exact hc 3 _ rfl
  · rw [← add_offk ad _ 4 (by omega)]; exact hc 4 _ rfl
  · rw [← add_offk ad _ 5 (by omega)]; exact hc 5 _ rfl
end
theorem bytes_eq (x a : ByteArray) : (x.toList == a.toList) = decide (x = a) := by
  by_cases h : x = a
  · subst h; simp
  · rw [decide_eq_false h]
    have : ¬ x.toList = a.toList := fun e => h (str_ext (by rw [toList_data, toList_data] at e; exact e))
    simpa using this
set_option maxRecDepth 100000 in
set_option maxHeartbeats 4000000 in
theorem field1_any (fn : ByteArray) (v : VC) (b : Nat) (m : ByteArray) (w : World) (hb : w.cell? ⟨b, 0, none⟩ = some (.string m)) (hlt : b < w.heap.size) : Calls Tryd.prog 66 #[.agg #[.string fn, .int .i64 v.k, .int .i64 v.i, .int .i64 v.s, .string v.t, .slice v.la v.ln v.lc, .slice v.fa v.fn v.fc], .pointer (some ⟨b, 0, none⟩)] w fun e w' => e = .returned (.bool (decide (fn = m))) ∧ Only Nobody w w' := by
  have HF := Lib.hid (bytes_eq fn m)
  go_enter Tryd.func66, Tryd.ntmps66
  go_wp2_with fail
  go_ret
  exact ⟨ret_bool HF.out, (Only.refl _ _).alloc _⟩
def FiPost (f : List (ByteArray × VT)) (m : ByteArray) (w : World) (e : Ending) (w' : World) : Prop := e = .returned (.int .i64 (fieldI f m)) ∧ Only Nobody w w'
theorem fieldI_some {f : List (ByteArray × VT)} {m : ByteArray} {j : Nat} (h : fieldL f m = some j) : fieldI f m = (j : Int) := by unfold fieldI; rw [h]
theorem fieldI_none {f : List (ByteArray × VT)} {m : ByteArray} (h : fieldL f m = none) : fieldI f m = -1 := by unfold fieldI; rw [h]
set_option maxRecDepth 100000 in
set_option maxHeartbeats 4000000 in
theorem indexF_any (A : Option Addr) (n c : Nat) (F : List FC) (f : List (ByteArray × VT)) (S : Nat → Prop) (b : Nat) (m : ByteArray) (hn : n ≤ 1353245080300) (w : World) (h : RowA FC.vals 7 w S A n F) (hA : All2 (fun c x => c.n = x.1) F f) (hb : w.cell? ⟨b, 0, none⟩ = some (.string m)) (hlt : b < w.heap.size) : Calls Tryd.prog 49 #[.slice A n c, .func (.func 66) #[] #[.pointer (some ⟨b, 0, none⟩)]] w (FiPost f m w) := by
  have HP := Lib.hid h
  have HA := Lib.hid hA
  have HBC := Lib.hid hb
  clear h hA hb
  go_enter Tryd.func49, Tryd.ntmps49
  go_wp2_with fail
  go_loopw [8] (fun i wx => ∃ k : Nat, i = .int .i64 (k : Int) ∧ k ≤ n ∧ Hid (isF f m k) ∧ Hid (Only Nobody w wx)) (fun i _ => n - (intOf i).toNat)
  case atStart => exact ⟨0, rfl, Nat.zero_le _, Lib.hid (fun _ _ h => absurd h (by omega)), Lib.hid (Only.refl _ _)⟩
  case round =>
    obtain ⟨k, rfl, hk, HC, HON⟩ := hrel
    by_cases hkm : k < n
    · have hkI : (k : Int) < (n : Int) := by omega
      have hk0 : (0 : Int) ≤ (k : Int) := by omega
      obtain ⟨ad, rfl⟩ := HP.out.some_ (by omega)
      obtain ⟨o, hx⟩ := HP.out.get hkm
      obtain ⟨a0, a1, a2, a3, a4, a5, a6⟩ := (HP.out.same HON.out).fat hx
      obtain ⟨x, hfx, hnm⟩ := HA.out.get hx
      have HX := Lib.hid hfx
      have HNM := Lib.hid hnm
      have HBK : Hid (wr.cell? ⟨b, 0, none⟩ = some (.string m)) := Lib.hid ((HON.out.cell (p := ⟨b, 0, none⟩) hlt (fun x => x)).trans HBC.out)
      have hltr : b < wr.heap.size := Nat.lt_of_lt_of_le hlt HON.out.size
      clear hx hfx hnm
      by_cases hc : o.n = m
      · have HF : Hid (fieldI f m = (k : Int)) := Lib.hid (fieldI_some (fieldL_hit HC.out HX.out (by rw [← HNM.out]; exact hc)))
        have HCC := Lib.hid hc
        clear hc
        go_wp2_with fail
        refine (field1_any o.n o.v b m _ HBK.out hltr).mono ?_
        rw [decide_eq_true HCC.out]
        rintro e w1 ⟨rfl, ho⟩
        have HO := Lib.hid (HON.out.trans ho)
        clear ho
        go_wp2_with fail
        go_ret
        exact ⟨ret_int HF.out.symm, HO.out⟩
      · have HC2 := Lib.hid (HC.out.next HX.out (by rw [← HNM.out]; exact hc))
        have HCC := Lib.hid hc
        clear hc
        go_wp2_with fail
        refine (field1_any o.n o.v b m _ HBK.out hltr).mono ?_
        rw [decide_eq_false HCC.out]
        rintro e w1 ⟨rfl, ho⟩
        have HO := Lib.hid (HON.out.trans ho)
        clear ho
        go_wp2_with fail
        go_roundw
        case rel => first | exact ⟨k + 1, by go_num, by omega, HC2, HO⟩ | ((repeat apply Exists.intro); exact ⟨⟨k + 1, by go_num, by omega, HC2, HO⟩, rfl⟩)
        case measure => simp [intOf]; omega
    · obtain rfl : k = n := by omega
      have HF : Hid (fieldI f m = -1) := Lib.hid (fieldI_none (fieldL_none (by rw [← HA.out.1, HP.out.len]; exact HC.out)))
      go_wp2_with fail
      go_ret
      exact ⟨ret_int HF.out.symm, HON.out⟩
set_option maxRecDepth 100000 in
set_option maxHeartbeats 4000000 in
theorem field_any (v : VC) (F : List FC) (f : List (ByteArray × VT)) (S : Nat → Prop) (m : ByteArray) (hn : v.fn ≤ 1353245080300) (w : World) (h : RowA FC.vals 7 w S v.fa v.fn F) (hA : All2 (fun c x => c.n = x.1) F f) : Calls Tryd.prog 53 #[.agg #[.int .i64 v.k, .int .i64 v.i, .int .i64 v.s, .string v.t, .slice v.la v.ln v.lc, .slice v.fa v.fn v.fc], .string m] w (FiPost f m w) := by
  have HP := Lib.hid h
  have HA := Lib.hid hA
  clear h hA
  go_enter Tryd.func53, Tryd.ntmps53
  go_wp2_with fail
  refine (indexF_any v.fa v.fn v.fc F f S (w.heap.size + 1) m hn _ (HP.out.same (((Only.refl _ _).alloc _).alloc _)) HA.out ?_ (by simp)).mono ?_
  · simp
  rintro e w1 ⟨rfl, ho⟩
  have HO : Hid (Only Nobody w w1) := Lib.hid ((((Only.refl _ _).alloc _).alloc _).trans ho)
  clear ho
  go_wp2_with fail
  go_ret
  exact ⟨rfl, HO.out⟩

/-! lead. -/
def leadL (p : Pt) (T : VT) : List VT :=
  if p.kind = 1 then (match fieldL T.f p.name with | some j => ((T.f[j]?).map (·.2)).toList | none => [])
  else if p.kind = 3 then T.l
  else if p.kind = 4 then (if T.t = p.name then T.l else [])
  else if p.kind = 2 then (if p.idx < (T.l.length : Int) then (T.l[p.idx.toNat]?).toList else []) else []
/-- A slice of values that read as trees. -/
def VRow (w : World) (S : Nat → Prop) (n : Nat) (A : Option Addr) (m : Nat) (L : List VT) : Prop := ∃ V, RowA VC.vals 6 w S A m V ∧ All2 (VAt w S n) V L
theorem VRow.same {w w' : World} {S : Nat → Prop} {n m : Nat} {A : Option Addr} {L : List VT} (h : VRow w S n A m L) (ho : Only Nobody w w') : VRow w' S n A m L := by
  obtain ⟨V, h1, h2⟩ := h
  exact ⟨V, h1.same ho, h2.imp fun _ _ h => h.same ho⟩
theorem VRow.keep {w w' : World} {S F : Nat → Prop} {n m : Nat} {A : Option Addr} {L : List VT} (h : VRow w S n A m L) (ho : Only F w w') (hS : ∀ b, S b → ¬ F b) : VRow w' S n A m L := by
  obtain ⟨V, h1, h2⟩ := h
  exact ⟨V, h1.keep ho hS, h2.imp fun _ _ h => h.keep ho hS⟩
theorem VRow.any {w : World} {S : Nat → Prop} {n m : Nat} {A : Option Addr} {L : List VT} (h : VRow w S n A m L) : VRow w Any_ n A m L := by
  obtain ⟨V, h1, h2⟩ := h
  exact ⟨V, h1.mono fun _ _ _ => trivial, h2.imp fun _ _ h => h.any⟩
theorem VRow.up {w : World} {S : Nat → Prop} {n m k : Nat} {A : Option Addr} {L : List VT} (h : VRow w S n A m L) (hk : n ≤ k) : VRow w S k A m L := by
  obtain ⟨V, h1, h2⟩ := h
  exact ⟨V, h1, h2.imp fun _ _ h => h.le hk⟩
theorem VRow.len {w : World} {S : Nat → Prop} {n m : Nat} {A : Option Addr} {L : List VT} (h : VRow w S n A m L) : L.length = m := by
  obtain ⟨V, h1, h2⟩ := h
  rw [← h2.1, h1.len]
/-- One value in a new block. -/
theorem RowA.newV (w : World) (v : VC) : RowA VC.vals 6 (w.alloc (.cells #[.int .i64 v.k, .int .i64 v.i, .int .i64 v.s, .string v.t, .slice v.la v.ln v.lc, .slice v.fa v.fn v.fc] 25)) Any_ (some ⟨w.heap.size, 0, none⟩) 1 [v] := by
  refine ⟨?_, rfl, fun _ _ _ => trivial⟩
  have := reads_alloc w 25 #[.int .i64 v.k, .int .i64 v.i, .int .i64 v.s, .string v.t, .slice v.la v.ln v.lc, .slice v.fa v.fn v.fc] 6 1 rfl
  simpa [cells, VC.vals] using this
/-- A part of a row. -/
theorem RowA.sub {w : World} {S : Nat → Prop} {n : Nat} {ad : Addr} {V : List VC} {j : Nat} {o : VC} (h : RowA VC.vals 6 w S (some ad) n V) (ho : V[j]? = some o) : RowA VC.vals 6 w S (some (ad.add (j * 6))) 1 [o] := by
  have hj : j < V.length := (List.getElem?_eq_some_iff.1 ho).1
  have hn := h.len
  refine ⟨⟨by simp [cells, vlen], fun _ => ⟨_, rfl, ?_, fun q u hu => ?_⟩⟩, rfl, fun _ a e => ?_⟩
  · have := h.lt (by omega)
    unfold Addr.add; split <;> exact this
  · have hq : o.vals[q]? = some u := by simpa [cells] using hu
    have h2 := h.cell vlen ho hq
    have e : (ad.add (j * 6)).add q = ad.add (j * 6 + q) := by
      unfold Addr.add
      split <;> split <;> simp_all <;> omega
    rw [e]; exact h2
  · injection e with e
    subst e
    have := h.blk (by omega) ad rfl
    unfold Addr.add; split <;> exact this
def LeadPost (S : Nat → Prop) (n : Nat) (p : Pt) (T : VT) (w : World) (e : Ending) (w' : World) : Prop :=
  ∃ A m c V, e = .returned (.slice A m c) ∧ RowA VC.vals 6 w' Any_ A m V ∧ All2 (VAt w' S n) V (leadL p T) ∧ Only Nobody w w'
set_option maxRecDepth 100000 in
set_option maxHeartbeats 4000000 in
theorem lead_any (k i : Int) (nm : ByteArray) (v : VC) (T : VT) (S : Nat → Prop) (n : Nat) (hv : validB ⟨k, i, nm⟩ = true) (hsz : T.size ≤ 140737488351232) (w : World) (h : VAt w S n v T) : Calls Tryd.prog 35 #[.agg #[.int .i64 k, .int .i64 i, .string nm], .agg #[.int .i64 v.k, .int .i64 v.i, .int .i64 v.s, .string v.t, .slice v.la v.ln v.lc, .slice v.fa v.fn v.fc]] w (LeadPost S n ⟨k, i, nm⟩ T w) := by
  obtain ⟨n, rfl⟩ : ∃ n', n = n' + 1 := by cases n with
    | zero => exact h.elim
    | succ n => exact ⟨n, rfl⟩
  obtain ⟨⟨hk, hi, hs, ht, hlc, hfc⟩, ⟨V, hV, hA⟩, ⟨F, hF, hB⟩⟩ := h
  have HV := Lib.hid hV
  have HA := Lib.hid hA
  have HF := Lib.hid hF
  have HB := Lib.hid hB
  have HTT := Lib.hid ht
  have hln : v.ln ≤ 1599289640355 := by
    rw [← hV.len, hA.1]; have := sizeL_len T.l; cases T; simp only [VT.size, VT.l] at *; omega
  have hfn : v.fn ≤ 1353245080300 := by
    rw [← hF.len, hB.1]; have := sizeF_len T.f; cases T; simp only [VT.size, VT.f] at *; omega
  clear hV hA hF hB hk hi hs ht hsz
  have HO2 : Hid (Only Nobody w ((w.alloc (.cells #[.int .i64 k, .int .i64 i, .string nm] 61)).alloc (.cells #[.int .i64 v.k, .int .i64 v.i, .int .i64 v.s, .string v.t, .slice v.la v.ln v.lc, .slice v.fa v.fn v.fc] 25))) := Lib.hid (((Only.refl _ _).alloc _).alloc _)
  by_cases h1 : k = 1
  · subst h1
    cases hj : fieldL T.f nm with
    | none =>
      have HJ := Lib.hid (fieldI_none hj)
      have HL : Hid (leadL ⟨1, i, nm⟩ T = []) := Lib.hid (by unfold leadL; simp [hj])
      clear hj
      go_enter Tryd.func35, Tryd.ntmps35
      go_wp2_with fail
      refine (field_any v F T.f S nm hfn _ (HF.out.same HO2.out) (HB.out.imp fun _ _ h => h.1)).mono ?_
      rintro e w1 ⟨rfl, ho⟩
      rw [HJ.out]
      have HO : Hid (Only Nobody w w1) := Lib.hid (HO2.out.trans ho)
      clear ho
      go_wp2_with fail
      go_ret
      exact ⟨_, _, _, [], rfl, RowA.nil_, by rw [HL.out]; exact All2.nil_, HO.out⟩
    | some j =>
      have HJ := Lib.hid (fieldI_some hj)
      have hjx : ∃ x, T.f[j]? = some x := by
        have : ∀ (f : List (ByteArray × VT)) (m : ByteArray) (j : Nat), fieldL f m = some j → ∃ x, f[j]? = some x := by
          intro f m
          induction f with
          | nil => intro j h; cases h
          | cons y f ih =>
            intro j h
            unfold fieldL at h
            by_cases hy : y.1 = m
            · rw [if_pos hy] at h
              injection h with h
              subst h
              exact ⟨y, rfl⟩
            · rw [if_neg hy] at h
              cases hf : fieldL f m with
              | none => rw [hf] at h; cases h
              | some q =>
                rw [hf] at h
                injection h with h
                subst h
                obtain ⟨x, hx⟩ := ih q hf
                exact ⟨x, by simpa using hx⟩
        exact this _ _ _ hj
      obtain ⟨x, hx⟩ := hjx
      have HL : Hid (leadL ⟨1, i, nm⟩ T = [x.2]) := Lib.hid (by unfold leadL; simp [hj, hx])
      obtain ⟨o, hox, hon⟩ := HB.out.get' hx
      have hjl : j < v.fn := by rw [← HF.out.len]; exact (List.getElem?_eq_some_iff.1 hox).1
      have HX := Lib.hid hon.2
      have HOX := Lib.hid hox
      have hj0 : (0 : Int) ≤ (j : Int) := by omega
      have hjI : (j : Int) < (v.fn : Int) := by omega
      obtain ⟨ad, had⟩ := HF.out.some_ (by omega)
      have HAD := Lib.hid had
      clear hj hx hox hon had
      go_enter Tryd.func35, Tryd.ntmps35
      go_wp2_with fail
      refine (field_any v F T.f S nm hfn _ (HF.out.same HO2.out) (HB.out.imp fun _ _ h => h.1)).mono ?_
      rintro e w1 ⟨rfl, ho⟩
      rw [HJ.out]
      have HO : Hid (Only Nobody w w1) := Lib.hid (HO2.out.trans ho)
      have hc5 : w1.cell? ⟨w.heap.size + 1, 5, none⟩ = some (.slice (some ad) v.fn v.fc) := by
        rw [← HAD.out]
        refine (ho.cell (p := ⟨w.heap.size + 1, 5, none⟩) (by simp) (fun x => x)).trans ?_
        simp
      have HFW := HF.out.same HO.out
      rw [HAD.out] at HFW
      obtain ⟨a0, a1, a2, a3, a4, a5, a6⟩ := HFW.fat HOX.out
      have HXE : Hid (VAt (w1.alloc (.cells #[.int .i64 o.v.k, .int .i64 o.v.i, .int .i64 o.v.s, .string o.v.t, .slice o.v.la o.v.ln o.v.lc, .slice o.v.fa o.v.fn o.v.fc] 25)) S n o.v x.2) := Lib.hid (HX.out.same (HO.out.alloc _))
      have HRW : Hid (RowA VC.vals 6 (w1.alloc (.cells #[.int .i64 o.v.k, .int .i64 o.v.i, .int .i64 o.v.s, .string o.v.t, .slice o.v.la o.v.ln o.v.lc, .slice o.v.fa o.v.fn o.v.fc] 25)) Any_ (some ⟨w1.heap.size, 0, none⟩) 1 [o.v]) := Lib.hid (RowA.newV w1 o.v)
      have HOE : Hid (Only Nobody w (w1.alloc (.cells #[.int .i64 o.v.k, .int .i64 o.v.i, .int .i64 o.v.s, .string o.v.t, .slice o.v.la o.v.ln o.v.lc, .slice o.v.fa o.v.fn o.v.fc] 25))) := Lib.hid (HO.out.alloc _)
      clear ho HFW
      go_wp2_with fail
      go_ret
      exact ⟨_, _, _, [o.v], rfl, HRW.out, by rw [HL.out]; exact All2.one HXE.out.up, HOE.out⟩
  have hk1 : (k == 1) = false := by simpa using h1
  by_cases h3 : k = 3
  · subst h3
    have HL : Hid (leadL ⟨3, i, nm⟩ T = T.l) := Lib.hid (by unfold leadL; simp)
    go_enter Tryd.func35, Tryd.ntmps35
    go_wp2_with fail
    go_ret
    exact ⟨_, _, _, V, rfl, (HV.out.same HO2.out).mono fun _ _ _ => trivial, by rw [HL.out]; exact HA.out.imp fun _ _ h => (h.same HO2.out).up, HO2.out⟩
  have hk3 : (k == 3) = false := by simpa using h3
  by_cases h4 : k = 4
  · subst h4
    by_cases hnt : v.t = nm
    · have HL : Hid (leadL ⟨4, i, nm⟩ T = T.l) := Lib.hid (by unfold leadL; simp [← HTT.out, hnt])
      have hnb : (v.t.toList == nm.toList) = true := by rw [bytes_eq, decide_eq_true hnt]
      have hnc : v.t.toList = nm.toList := by rw [hnt]
      clear hnt
      go_enter Tryd.func35, Tryd.ntmps35
      go_wp2_with fail
      go_ret
      exact ⟨_, _, _, V, rfl, (HV.out.same HO2.out).mono fun _ _ _ => trivial, by rw [HL.out]; exact HA.out.imp fun _ _ h => (h.same HO2.out).up, HO2.out⟩
    · have HL : Hid (leadL ⟨4, i, nm⟩ T = []) := Lib.hid (by unfold leadL; simp [← HTT.out, hnt])
      have hnb : (v.t.toList == nm.toList) = false := by rw [bytes_eq, decide_eq_false hnt]
      have hnc : ¬ v.t.toList = nm.toList := by simpa using hnb
      clear hnt
      go_enter Tryd.func35, Tryd.ntmps35
      go_wp2_with fail
      go_ret
      exact ⟨_, _, _, [], rfl, RowA.nil_, by rw [HL.out]; exact All2.nil_, HO2.out⟩
  have hk4 : (k == 4) = false := by simpa using h4
  have h2 : k = 2 := by
    by_cases h2 : k = 2
    · exact h2
    · simp [validB, h1, h2, h3, h4] at hv
  subst h2
  have hi0 : 0 ≤ i := by
    have : (nm.size = 0 ∧ 0 ≤ i) ∧ i < 256 := by simpa [validB] using hv
    exact this.1.2
  obtain ⟨j, rfl⟩ : ∃ j : Nat, i = (j : Int) := ⟨i.toNat, by omega⟩
  by_cases hjl : j < v.ln
  · have hjI : (j : Int) < (v.ln : Int) := by omega
    obtain ⟨o, ho⟩ := HV.out.get hjl
    obtain ⟨x, hx, hax⟩ := HA.out.get ho
    have HL : Hid (leadL ⟨2, (j : Int), nm⟩ T = [x]) := Lib.hid (by
      unfold leadL
      have hl : j < T.l.length := (List.getElem?_eq_some_iff.1 hx).1
      have he : T.l[j] = x := (List.getElem?_eq_some_iff.1 hx).2
      simp [hl, he])
    obtain ⟨ad, had⟩ := HV.out.some_ (by omega)
    have HOO := Lib.hid ho
    have HAX := Lib.hid hax
    have HVA := HV.out
    rw [had] at HVA
    have HSB := Lib.hid (HVA.sub HOO.out)
    have hlcI : (j : Int) + 1 ≤ (v.lc : Int) := by omega
    clear ho hx hax HVA hv h1 hk1 h3 hk3 h4 hk4 HO2
    go_enter Tryd.func35, Tryd.ntmps35
    go_wp2_with fail
    go_ret
    have HO2 : Hid (Only Nobody w ((w.alloc (.cells #[.int .i64 2, .int .i64 (j : Int), .string nm] 61)).alloc (.cells #[.int .i64 v.k, .int .i64 v.i, .int .i64 v.s, .string v.t, .slice (some ad) v.ln v.lc, .slice v.fa v.fn v.fc] 25))) := Lib.hid (((Only.refl _ _).alloc _).alloc _)
    exact ⟨_, _, _, [o], rfl, (HSB.out.same HO2.out).mono fun _ _ _ => trivial, by rw [HL.out]; exact All2.one ((HAX.out.same HO2.out).up), HO2.out⟩
  · have hjI : ¬ (j : Int) < (v.ln : Int) := by omega
    have HL : Hid (leadL ⟨2, (j : Int), nm⟩ T = []) := Lib.hid (by
      unfold leadL
      have hl : ¬ j < T.l.length := by rw [← HA.out.1, HV.out.len]; exact hjl
      simp [hl])
    clear hv
    go_enter Tryd.func35, Tryd.ntmps35
    go_wp2_with fail
    go_ret
    exact ⟨_, _, _, [], rfl, RowA.nil_, by rw [HL.out]; exact All2.nil_, HO2.out⟩
end Go.Proofs.YtdccckoelnnnoaaDoor
