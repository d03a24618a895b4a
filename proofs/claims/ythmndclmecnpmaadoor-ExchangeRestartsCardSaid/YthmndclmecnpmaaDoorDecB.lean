/- Exchange: contract of Decode. -/
import Derived.Test.YthmndclmecnpmaaDoorDecA
import Derived.Shelf.Vars
namespace Go.Proofs.YthmndclmecnpmaaDoor
open Go.RowKit
attribute [local go_sem ↓] Go.wp_at_zero Go.wp_at_succ

/-- What the walks read of the library's variables. -/
structure Std (w : World) : Prop where
  tab : CalTab w
  ml : ∃ m, w.cell? ⟨0, 0, none⟩ = some (.int .i64 m)
  es : ∃ tp p, w.cell? ⟨1, 0, none⟩ = some (.iface tp p)
  er : ∃ tp p, w.cell? ⟨2, 0, none⟩ = some (.iface tp p)
theorem cell_lt {w : World} {b o : Nat} {u : Value} (h : w.cell? ⟨b, o, none⟩ = some u) : b < w.heap.size := by
  rcases Nat.lt_or_ge b w.heap.size with h1 | h1
  · exact h1
  · simp [World.cell?, Array.getElem?_eq_none h1] at h
theorem Std.same {w w' : World} (h : Std w) (ho : Only Nobody w w') : Std w' := by
  obtain ⟨m, hm⟩ := h.ml
  obtain ⟨t1, p1, h1⟩ := h.es
  obtain ⟨t2, p2, h2⟩ := h.er
  exact ⟨h.tab.same ho, ⟨m, (ho.cell (p := ⟨_, 0, none⟩) (cell_lt hm) (fun x => x)).trans hm⟩, ⟨t1, p1, (ho.cell (p := ⟨_, 0, none⟩) (cell_lt h1) (fun x => x)).trans h1⟩, ⟨t2, p2, (ho.cell (p := ⟨_, 0, none⟩) (cell_lt h2) (fun x => x)).trans h2⟩⟩

theorem cut_any (s : ByteArray) (c : UInt8) (hs : s.size ≤ 1000000) (w : World) (h : Std w) : Calls Tryd.prog 50 #[.string s, .string ⟨#[c]⟩] w fun e w' => ∃ b, e = .returned (.tuple #[.string (cutB s c).1, .string (cutB s c).2, .bool b]) ∧ Only Nobody w w' := by
  obtain ⟨m, hm⟩ := h.ml
  refine (Tryd.strings_Cut s ⟨#[c]⟩ m w (by omega) hm).mono ?_
  rintro e w' ⟨rfl, n, rfl⟩
  exact ⟨_, rfl, (Only.refl _ _).drewN n⟩
theorem bytes_only (w : World) (t : ByteArray) : Only Nobody w (Lib.bytesWorld w 5 t) := by
  refine ⟨rfl, rfl, rfl, ?_, fun k hk _ => ?_⟩
  · simp [Lib.bytesWorld, World.freeze]
  · have h : k ≠ w.heap.size := by omega
    simp [Lib.bytesWorld, World.freeze, World.alloc, Array.getElem?_modify, Array.getElem?_push, h, Ne.symm h]
    rfl
def AtoiPost (s : ByteArray) (w : World) (e : Ending) (w' : World) : Prop := ∃ ev, e = .returned (.tuple #[.int .i64 (decNum s), ev]) ∧ (numOk s = true → ev = .nilIface) ∧ (numOk s = false → ∃ t p, ev = .iface t p) ∧ Only Nobody w w'
theorem atoi_any (s : ByteArray) (hs : s.size ≤ 1000000) (w : World) (h : Std w) : Calls Tryd.prog 51 #[.string s] w (AtoiPost s w) := by
  obtain ⟨t1, p1, h1⟩ := h.es
  obtain ⟨t2, p2, h2⟩ := h.er
  cases hr : Lib.atoiAll s.data.toList with
  | ok v =>
    refine (Tryd.strconv_Atoi_ok s (by omega) v hr w).mono ?_
    rintro e w' ⟨rfl, hw⟩
    refine ⟨.nilIface, by unfold decNum; rw [hr], fun _ => rfl, fun e => (by unfold numOk at e; rw [hr] at e; cases e), ?_⟩
    rcases hw with rfl | ⟨t, rfl⟩
    · exact Only.refl _ _
    · exact bytes_only w t
  | range =>
    refine (Tryd.strconv_Atoi_range s (by omega) hr _ w h2 (.inr ⟨t2, p2, rfl⟩)).mono ?_
    rintro e w' ⟨N, rfl, _, _, hb⟩
    exact ⟨_, by unfold decNum; rw [hr], fun e => (by unfold numOk at e; rw [hr] at e; cases e), fun _ => ⟨_, _, rfl⟩, Only.of_below hb Nobody⟩
  | _ =>
    refine (Any.strconv_Atoi_syntax Tryd.laysC172 s (by omega) hr _ w h1 (.inr ⟨t1, p1, rfl⟩)).mono ?_
    rintro e w' ⟨N, rfl, _, _, hb⟩
    exact ⟨_, by unfold decNum; rw [hr], fun e => (by unfold numOk at e; rw [hr] at e; cases e), fun _ => ⟨_, _, rfl⟩, Only.of_below hb Nobody⟩

def zeroP : Value := .agg #[.int .i64 0, .string ⟨#[]⟩, .int .i64 0, .string ⟨#[]⟩]
def DecPost (s : ByteArray) (w : World) (e : Ending) (w' : World) : Prop :=
  ((decOk s ∧ e = .returned (.tuple #[.agg #[.int .i64 (decP s).kind, .string (decP s).name, .int .i64 (decP s).num, .string (decP s).text], .int .i64 0])) ∨ (¬ decOk s ∧ e = .returned (.tuple #[.agg #[.int .i64 0, .string ⟨#[]⟩, .int .i64 0, .string ⟨#[]⟩], .int .i64 3]))) ∧ Only Nobody w w'
theorem bytes_eq (x a : ByteArray) : (x.toList == a.toList) = decide (x = a) := by
  by_cases h : x = a
  · subst h; simp
  · rw [decide_eq_false h]
    have : ¬ x.toList = a.toList := fun e => h (str_ext (by rw [toList_data, toList_data] at e; exact e))
    simpa using this
set_option maxRecDepth 100000 in
set_option maxHeartbeats 4000000 in
theorem decode_any (s : ByteArray) (hs : s.size ≤ 100000) (w : World) (h : Std w) : Calls Tryd.prog 37 #[.string s] w (DecPost s w) := by
  have HS := Lib.hid h
  obtain ⟨hd, HHD⟩ : ∃ hd, Hid ((headD s).1 = hd) := ⟨_, Lib.hid rfl⟩
  obtain ⟨tx, HTX⟩ : ∃ tx, Hid ((headD s).2 = tx) := ⟨_, Lib.hid rfl⟩
  obtain ⟨wd, HWD⟩ : ∃ wd, Hid ((wordD s).1 = wd) := ⟨_, Lib.hid rfl⟩
  obtain ⟨re, HRE⟩ : ∃ re, Hid ((wordD s).2 = re) := ⟨_, Lib.hid rfl⟩
  obtain ⟨nm, HNM⟩ : ∃ nm, Hid ((restD s).1 = nm) := ⟨_, Lib.hid rfl⟩
  obtain ⟨nb, HNB⟩ : ∃ nb, Hid ((restD s).2 = nb) := ⟨_, Lib.hid rfl⟩
  have hdz : hd.size ≤ 100000 := by rw [← HHD.out]; exact Nat.le_trans (cutB_le s 10).1 hs
  have hrz : re.size ≤ 100000 := by rw [← HRE.out]; exact Nat.le_trans (cutB_le _ 32).2 (Nat.le_trans (cutB_le s 10).1 hs)
  have hnz : nb.size ≤ 100000 := by rw [← HNB.out]; exact Nat.le_trans (cutB_le _ 32).2 (by rw [HRE.out]; exact hrz)
  have HC1 : Hid (∀ w, Std w → Calls Tryd.prog 50 #[.string s, .string ⟨#[10]⟩] w fun e w' => ∃ b, e = .returned (.tuple #[.string hd, .string tx, .bool b]) ∧ Only Nobody w w') := Lib.hid fun w h => by
    rw [← HHD.out, ← HTX.out]
    exact cut_any s 10 (by omega) w h
  have HC2 : Hid (∀ w, Std w → Calls Tryd.prog 50 #[.string hd, .string ⟨#[32]⟩] w fun e w' => ∃ b, e = .returned (.tuple #[.string wd, .string re, .bool b]) ∧ Only Nobody w w') := Lib.hid fun w h => by
    rw [← HWD.out, ← HRE.out]
    unfold wordD
    rw [HHD.out]
    exact cut_any hd 32 (by omega) w h
  have HC3 : Hid (∀ w, Std w → Calls Tryd.prog 50 #[.string re, .string ⟨#[32]⟩] w fun e w' => ∃ b, e = .returned (.tuple #[.string nm, .string nb, .bool b]) ∧ Only Nobody w w') := Lib.hid fun w h => by
    rw [← HNM.out, ← HNB.out]
    unfold restD
    rw [HRE.out]
    exact cut_any re 32 (by omega) w h
  obtain ⟨num, HNU⟩ : ∃ num, Hid (decNum nb = num) := ⟨_, Lib.hid rfl⟩
  have HAT : Hid (∀ w, Std w → Calls Tryd.prog 51 #[.string nb] w fun e w' => ∃ ev, e = .returned (.tuple #[.int .i64 num, ev]) ∧ (numOk nb = true → ev = .nilIface) ∧ (numOk nb = false → ∃ t p, ev = .iface t p) ∧ Only Nobody w w') := Lib.hid fun w h => by
    rw [← HNU.out]
    exact atoi_any nb (by omega) w h
  obtain ⟨kd, HKD⟩ : ∃ kd : Int, Hid ((if wd.data.toList = [97, 99, 107] then (2 : Int) else 1) = kd) := ⟨_, Lib.hid rfl⟩
  have HP : Hid (decP s = ⟨kd, nm, num, tx⟩) := Lib.hid (by unfold decP; rw [HWD.out, HNM.out, HNB.out, HNU.out, HTX.out, HKD.out])
  have hnb := decNum_bd nb
  rw [HNU.out] at hnb
  have HEN : Hid (∀ w, Std w → Calls Tryd.prog 22 #[.agg #[.int .i64 kd, .string nm, .int .i64 num, .string tx]] w fun e w' => e = .returned (.tuple #[.string (pEnc ⟨kd, nm, num, tx⟩), .int .i64 (pErr ⟨kd, nm, num, tx⟩)]) ∧ Only Nobody w w') := Lib.hid fun w h => encode_any ⟨kd, nm, num, tx⟩ w h.tab hnb
  have HOK : Hid (decOk s ↔ numOk nb = true ∧ pErr ⟨kd, nm, num, tx⟩ = 0 ∧ pEnc ⟨kd, nm, num, tx⟩ = s) := Lib.hid (by unfold decOk; rw [HNB.out, HP.out])
  have HR0 : Hid (Blk (w.alloc (.cells #[.int .i64 0, .string ⟨#[]⟩, .int .i64 0, .string ⟨#[]⟩] 49)) w.heap.size 49 #[.int .i64 0, .string ⟨#[]⟩, .int .i64 0, .string ⟨#[]⟩]) := Lib.hid (Blk.new w _ _)
  have HOA : Hid (Only Nobody w (w.alloc (.cells #[.int .i64 0, .string ⟨#[]⟩, .int .i64 0, .string ⟨#[]⟩] 49))) := Lib.hid ((Only.refl _ _).alloc _)
  obtain ⟨R, HR⟩ : ∃ R, Hid (R = w.heap.size) := ⟨_, Lib.hid rfl⟩
  clear h hs hdz hrz hnz hnb
  go_enter Tryd.func37, Tryd.ntmps37
  go_wp2_with fail
  rw [← HR.out]
  rw [← HR.out] at HR0
  refine (HC1.out _ (HS.out.same HOA.out)).mono ?_
  rintro e w1 ⟨b1, rfl, ho1⟩
  have HR1 := Lib.hid (ho1.blk HR0.out (fun x => x))
  have HO1 := Lib.hid (HOA.out.trans ho1)
  clear ho1
  go_wp2_with fail
  refine (HC2.out _ (HS.out.same HO1.out)).mono ?_
  rintro e w2 ⟨b2, rfl, ho2⟩
  have HR2 := Lib.hid (ho2.blk HR1.out (fun x => x))
  have HO2 := Lib.hid (HO1.out.trans ho2)
  clear ho2
  go_wp2_with fail
  refine (HC3.out _ (HS.out.same HO2.out)).mono ?_
  rintro e w3 ⟨b3, rfl, ho3⟩
  have HR3 := Lib.hid (ho3.blk HR2.out (fun x => x))
  have HO3 := Lib.hid (HO2.out.trans ho3)
  clear ho3
  obtain ⟨bw, hbw⟩ : ∃ bw, (wd.toList == [97, 99, 107]) = bw := ⟨_, rfl⟩
  have HBW : Hid (bw = decide (wd.data.toList = [97, 99, 107])) := Lib.hid (by rw [← hbw, toList_data, Bool.eq_iff_iff]; simp)
  go_upto_if 40 with fail
  obtain ⟨P, HPP⟩ : ∃ P, Hid (P = w3.heap.size) := ⟨_, Lib.hid rfl⟩
  obtain ⟨W3, HW3⟩ : ∃ W3, Hid (W3 = w3.alloc (.cells #[.int .i64 1, .string nm, .int .i64 0, .string tx] 49)) := ⟨_, Lib.hid rfl⟩
  rw [← HPP.out, ← HW3.out]
  have HPB : Hid (Blk W3 P 49 #[.int .i64 1, .string nm, .int .i64 0, .string tx]) := Lib.hid (by rw [HW3.out, HPP.out]; exact Blk.new w3 _ _)
  have HO4 : Hid (Only Nobody w W3) := Lib.hid (by rw [HW3.out]; exact HO3.out.alloc _)
  have HR4 : Hid (Blk W3 R 49 #[.int .i64 0, .string ⟨#[]⟩, .int .i64 0, .string ⟨#[]⟩]) := Lib.hid (by rw [HW3.out]; exact HR3.out.alloc _)
  have HRP : Hid (R ≠ P) := Lib.hid (by have := HR3.out.lt; rw [HPP.out]; omega)
  have HRW : Hid (w.heap.size ≤ R ∧ w.heap.size ≤ P) := Lib.hid ⟨by rw [HR.out]; exact Nat.le_refl _, by rw [HPP.out]; exact HO3.out.size⟩
  go_cut [] (fun wx => Blk wx P 49 #[.int .i64 kd, .string nm, .int .i64 0, .string tx] ∧ Blk wx R 49 #[.int .i64 0, .string ⟨#[]⟩, .int .i64 0, .string ⟨#[]⟩] ∧ Only Nobody w wx)
  case first =>
    have p0 : W3.cell? ⟨P, 0, none⟩ = some (.int .i64 1) := HPB.out.cell 0
    have pf : W3.frozen? ⟨P, 0, none⟩ = false := HPB.out.frozen 0
    cases bw with
    | true =>
      have HK2 : Hid (kd = 2) := Lib.hid (by rw [← HKD.out, if_pos (of_decide_eq_true HBW.out.symm)])
      go_wp2_with fail
      go_meet
      rw [HK2.out]
      exact ⟨HPB.out.set_ 0 _, HR4.out.far (p := ⟨P, 0, none⟩) HRP.out _, HO4.out.setCell (p := ⟨P, 0, none⟩) (.inr HRW.out.2) _⟩
    | false =>
      have HK2 : Hid (kd = 1) := Lib.hid (by rw [← HKD.out, if_neg (of_decide_eq_false HBW.out.symm)])
      go_wp2_with fail
      go_meet
      rw [HK2.out]
      exact ⟨HPB.out, HR4.out, HO4.out⟩
  case rest =>
    obtain ⟨hp5, hr5, ho5⟩ := hcut
    have HP5 := Lib.hid hp5
    have HR5 := Lib.hid hr5
    have HO5 := Lib.hid ho5
    clear hp5 hr5 ho5
    go_wp2_with fail
    refine (HAT.out _ (HS.out.same HO5.out)).mono ?_
    rintro e w6 ⟨ev, rfl, hev1, hev2, ho6⟩
    have HEV1 := Lib.hid hev1
    have HEV2 := Lib.hid hev2
    have HP6 := Lib.hid (ho6.blk HP5.out (fun x => x))
    have HR6 := Lib.hid (ho6.blk HR5.out (fun x => x))
    have HO6 := Lib.hid (HO5.out.trans ho6)
    have p0 : w6.cell? ⟨P, 0, none⟩ = some (.int .i64 kd) := HP6.out.cell 0
    have p1 : w6.cell? ⟨P, 1, none⟩ = some (.string nm) := HP6.out.cell 1
    have p2 : w6.cell? ⟨P, 2, none⟩ = some (.int .i64 0) := HP6.out.cell 2
    have p3 : w6.cell? ⟨P, 3, none⟩ = some (.string tx) := HP6.out.cell 3
    have pf : w6.frozen? ⟨P, 2, none⟩ = false := HP6.out.frozen 2
    clear hev1 hev2 ho6
    go_wp2_with fail
    have HO7 : Hid (Only Nobody w (w6.setCell ⟨P, 2, none⟩ (.int .i64 num))) := Lib.hid (HO6.out.setCell (p := ⟨P, 2, none⟩) (.inr HRW.out.2) _)
    have HP7 : Hid (Blk (w6.setCell ⟨P, 2, none⟩ (.int .i64 num)) P 49 #[.int .i64 kd, .string nm, .int .i64 num, .string tx]) := Lib.hid (HP6.out.set_ 2 _)
    have HR7 : Hid (Blk (w6.setCell ⟨P, 2, none⟩ (.int .i64 num)) R 49 #[.int .i64 0, .string ⟨#[]⟩, .int .i64 0, .string ⟨#[]⟩]) := Lib.hid (HR6.out.far (p := ⟨P, 2, none⟩) HRP.out _)
    refine (HEN.out _ (HS.out.same HO7.out)).mono ?_
    rintro e w8 ⟨rfl, ho8⟩
    have HP8 := Lib.hid (ho8.blk HP7.out (fun x => x))
    have HR8 := Lib.hid (ho8.blk HR7.out (fun x => x))
    have HO8 := Lib.hid (HO7.out.trans ho8)
    have q0 : w8.cell? ⟨P, 0, none⟩ = some (.int .i64 kd) := HP8.out.cell 0
    have q1 : w8.cell? ⟨P, 1, none⟩ = some (.string nm) := HP8.out.cell 1
    have q2 : w8.cell? ⟨P, 2, none⟩ = some (.int .i64 num) := HP8.out.cell 2
    have q3 : w8.cell? ⟨P, 3, none⟩ = some (.string tx) := HP8.out.cell 3
    have r0 : w8.cell? ⟨R, 0, none⟩ = some (.int .i64 0) := HR8.out.cell 0
    have r1 : w8.cell? ⟨R, 1, none⟩ = some (.string ⟨#[]⟩) := HR8.out.cell 1
    have r2 : w8.cell? ⟨R, 2, none⟩ = some (.int .i64 0) := HR8.out.cell 2
    have r3 : w8.cell? ⟨R, 3, none⟩ = some (.string ⟨#[]⟩) := HR8.out.cell 3
    have f0 : w8.frozen? ⟨R, 0, none⟩ = false := HR8.out.frozen 0
    have f1 : w8.frozen? ⟨R, 1, none⟩ = false := HR8.out.frozen 1
    have f2 : w8.frozen? ⟨R, 2, none⟩ = false := HR8.out.frozen 2
    have f3 : w8.frozen? ⟨R, 3, none⟩ = false := HR8.out.frozen 3
    have hrw : w.heap.size ≤ R := HRW.out.1
    have HOF : Hid (∀ u0 u1 u2 u3 : Value, Only Nobody w ((((w8.setCell ⟨R, 0, none⟩ u0).setCell ⟨R, 1, none⟩ u1).setCell ⟨R, 2, none⟩ u2).setCell ⟨R, 3, none⟩ u3)) := Lib.hid fun u0 u1 u2 u3 => (((HO8.out.setCell (p := ⟨R, 0, none⟩) (.inr hrw) u0).setCell (p := ⟨R, 1, none⟩) (.inr hrw) u1).setCell (p := ⟨R, 2, none⟩) (.inr hrw) u2).setCell (p := ⟨R, 3, none⟩) (.inr hrw) u3
    clear ho8 p0 p1 p2 p3 pf
    obtain ⟨p, HPK⟩ : ∃ p : Pkt, Hid (p = ⟨kd, nm, num, tx⟩) := ⟨_, Lib.hid rfl⟩
    rw [← HPK.out] at HOK ⊢
    obtain ⟨pe, HPE⟩ : ∃ pe, Hid (pEnc p = pe) := ⟨_, Lib.hid rfl⟩
    obtain ⟨pr, HPR⟩ : ∃ pr, Hid (pErr p = pr) := ⟨_, Lib.hid rfl⟩
    rw [HPE.out, HPR.out] at HOK ⊢
    have HBAD : Hid (∀ w', ¬ decOk s → Only Nobody w w' → DecPost s w (.returned (.tuple #[.agg #[.int .i64 0, .string ⟨#[]⟩, .int .i64 0, .string ⟨#[]⟩], .int .i64 3])) w') := Lib.hid fun w' h1 h2 => ⟨.inr ⟨h1, rfl⟩, h2⟩
    have HGOOD : Hid (∀ w', decOk s → Only Nobody w w' → DecPost s w (.returned (.tuple #[.agg #[.int .i64 kd, .string nm, .int .i64 num, .string tx], .int .i64 0])) w') := Lib.hid fun w' h1 h2 => ⟨.inl ⟨h1, by rw [HP.out]⟩, h2⟩
    cases hno : numOk nb with
    | false =>
      obtain ⟨ti, pi, rfl⟩ := HEV2.out hno
      have HN := Lib.hid (show ¬ decOk s from fun x => by have := (HOK.out.1 x).1; rw [hno] at this; cases this)
      clear hno
      go_wp2_with fail
      exact bodyPost_ret (v := .tuple #[.agg #[.int .i64 0, .string ⟨#[]⟩, .int .i64 0, .string ⟨#[]⟩], .int .i64 3]) (by simp [results, Tryd.results37, go_sem, r0, r1, r2, r3]) rfl (HBAD.out _ HN.out (HOF.out _ _ _ _))
    | true =>
      obtain rfl := HEV1.out hno
      have HNO := Lib.hid hno
      clear hno
      by_cases hpr : pr = 0
      · subst hpr
        obtain ⟨be, hbe⟩ : ∃ be, (pe.toList == s.toList) = be := ⟨_, rfl⟩
        have HBE : Hid (be = decide (pe = s)) := Lib.hid (by rw [← hbe, bytes_eq])
        cases be with
        | true =>
          have HY := Lib.hid (show decOk s from HOK.out.2 ⟨HNO.out, rfl, of_decide_eq_true HBE.out.symm⟩)
          have hne : (pe.toList != s.toList) = false := by rw [bne, hbe]; rfl
          clear HEV1 HEV2
          go_wp2_with fail
          exact bodyPost_ret (v := .tuple #[.agg #[.int .i64 kd, .string nm, .int .i64 num, .string tx], .int .i64 0]) (by simp [results, Tryd.results37, go_sem, r0, r1, r2, r3]) rfl (HGOOD.out _ HY.out (HOF.out _ _ _ _))
        | false =>
          have HN := Lib.hid (show ¬ decOk s from fun x => absurd (HOK.out.1 x).2.2 (of_decide_eq_false HBE.out.symm))
          have hne : (pe.toList != s.toList) = true := by rw [bne, hbe]; rfl
          clear HEV1 HEV2
          go_wp2_with fail
          exact bodyPost_ret (v := .tuple #[.agg #[.int .i64 0, .string ⟨#[]⟩, .int .i64 0, .string ⟨#[]⟩], .int .i64 3]) (by simp [results, Tryd.results37, go_sem, r0, r1, r2, r3]) rfl (HBAD.out _ HN.out (HOF.out _ _ _ _))
      · have hpb : (pr != 0) = true := by simpa using hpr
        have hpc : (pr == 0) = false := by simpa using hpr
        have HN := Lib.hid (show ¬ decOk s from fun x => hpr (HOK.out.1 x).2.1)
        clear hpr HEV1 HEV2
        go_wp2_with fail
        exact bodyPost_ret (v := .tuple #[.agg #[.int .i64 0, .string ⟨#[]⟩, .int .i64 0, .string ⟨#[]⟩], .int .i64 3]) (by simp [results, Tryd.results37, go_sem, r0, r1, r2, r3]) rfl (HBAD.out _ HN.out (HOF.out _ _ _ _))
end Go.Proofs.YthmndclmecnpmaaDoor
