/- Path: the reference's Every, lead. -/
import Derived.Test.YtdccckoelnnnoaaDoorFiG
namespace Go.Proofs.YtdccckoelnnnoaaDoor
open Go.RowKit
attribute [local go_sem ↓] Go.wp_at_zero Go.wp_at_succ

set_option maxRecDepth 100000 in
set_option maxHeartbeats 4000000 in
theorem revery_any (A : Option Addr) (n c : Nat) (L : List Pt) (hn : n ≤ 1000) (w : World) (h : Pts w A n L) : Calls Tryd.prog 39 #[.slice A n c] w fun e w' => e = .returned (.bool (everyL L)) ∧ Only Nobody w w' := by
  have HP := Lib.hid h
  clear h
  go_enter Tryd.func39, Tryd.ntmps39
  go_wp2_with fail
  go_loopw [3] (fun i wx => ∃ k : Nat, i = .int .i64 (k : Int) ∧ k ≤ n ∧ Hid (NoAll L k) ∧ Hid (Only Nobody w wx)) (fun i _ => n - (intOf i).toNat)
  case atStart => exact ⟨0, rfl, Nat.zero_le _, Lib.hid (fun _ _ h => absurd h (by omega)), Lib.hid (Only.refl _ _)⟩
  case round =>
    obtain ⟨k, rfl, hk, HC, HON⟩ := hrel
    by_cases hkm : k < n
    · have hkI : (k : Int) < (n : Int) := by omega
      have hk0 : (0 : Int) ≤ (k : Int) := by omega
      obtain ⟨ad, rfl⟩ := HP.out.some_ (by omega)
      obtain ⟨⟨k1, i1, n1⟩, hx⟩ := HP.out.get hkm
      obtain ⟨a0, a1, a2⟩ := (HP.out.same HON.out).at_ hx
      dsimp only at a0 a1 a2
      have HX := Lib.hid hx
      clear hx
      cases hb : (k1 == 3) with
      | true =>
        have HF : Hid (everyL L = true) := Lib.hid (everyL_yes HX.out hb)
        go_wp2_with fail
        go_ret
        exact ⟨ret_bool HF.out.symm, HON.out⟩
      | false =>
        have HC2 := Lib.hid (HC.out.next HX.out hb)
        go_wp2_with fail
        go_roundw
        case rel => first | exact ⟨k + 1, by go_num, by omega, HC2, HON⟩ | ((repeat apply Exists.intro); exact ⟨⟨k + 1, by go_num, by omega, HC2, HON⟩, rfl⟩)
        case measure => simp [intOf]; omega
    · obtain rfl : k = n := by omega
      have HF : Hid (everyL L = false) := Lib.hid (everyL_no (by rw [HP.out.len]; exact HC.out))
      go_wp2_with fail
      go_ret
      exact ⟨ret_bool HF.out.symm, HON.out⟩

/-! lead. -/
def RLeadPost (S : Nat → Prop) (n : Nat) (p : Pt) (T : VT) (w : World) (e : Ending) (w' : World) : Prop :=
  ∃ A m c V, e = .returned (.tuple #[.slice A m c, .bool (appT p T)]) ∧ RowA VC.vals 6 w' Any_ A m V ∧ (appT p T = true → All2 (VAt w' S n) V (leadL p T)) ∧ Only Nobody w w'
theorem ret2_sl {a : Value} {x y : Bool} (h : x = y) : Ending.returned (.tuple #[a, .bool x]) = Ending.returned (.tuple #[a, .bool y]) := by rw [h]
theorem append_nil_one (w : World) (o : VC) : (w.alloc (.cells #[.int .i64 o.k, .int .i64 o.i, .int .i64 o.s, .string o.t, .slice o.la o.ln o.lc, .slice o.fa o.fn o.fc] 25)).ownsRow w.heap.size 25 6 (.slice none 0 0) 0 [] := ⟨rfl, .inl ⟨rfl, rfl⟩⟩
set_option maxRecDepth 100000 in
set_option maxHeartbeats 8000000 in
theorem rlead_any (k i : Int) (nm : ByteArray) (v : VC) (T : VT) (S : Nat → Prop) (n : Nat) (hv : validB ⟨k, i, nm⟩ = true) (hsz : T.size ≤ 140737488351232) (w : World) (h : VAt w S n v T) : Calls Tryd.prog 40 #[.agg #[.int .i64 v.k, .int .i64 v.i, .int .i64 v.s, .string v.t, .slice v.la v.ln v.lc, .slice v.fa v.fn v.fc], .agg #[.int .i64 k, .int .i64 i, .string nm]] w (RLeadPost S n ⟨k, i, nm⟩ T w) := by
  have HAPP := Lib.hid (app_eq h ⟨k, i, nm⟩)
  obtain ⟨n, rfl⟩ : ∃ n', n = n' + 1 := by cases n with
    | zero => exact h.elim
    | succ n => exact ⟨n, rfl⟩
  obtain ⟨⟨hk, hi, hs, ht, hlc, hfc⟩, ⟨V, hV, hA⟩, ⟨F, hF, hB⟩⟩ := h
  have HV := Lib.hid hV
  have HA := Lib.hid hA
  have HF := Lib.hid hF
  have HB := Lib.hid hB
  have HTT := Lib.hid ht
  have hln : v.ln ≤ 1599289640355 := by
    rw [← hV.len, hA.1]; have := sizeL_len T.l; have := size_l T; omega
  have hfn : v.fn ≤ 1353245080300 := by
    rw [← hF.len, hB.1]; have := sizeF_len T.f; have := size_f T; omega
  have HTF : Hid (T.f.length = v.fn) := Lib.hid (by rw [← hB.1, hF.len])
  have HTL : Hid (T.l.length = v.ln) := Lib.hid (by rw [← hA.1, hV.len])
  clear hV hA hF hB hk hi hs ht hsz
  have HO2 : Hid (Only Nobody w ((w.alloc (.cells #[.int .i64 v.k, .int .i64 v.i, .int .i64 v.s, .string v.t, .slice v.la v.ln v.lc, .slice v.fa v.fn v.fc] 25)).alloc (.cells #[.int .i64 k, .int .i64 i, .string nm] 44))) := Lib.hid (((Only.refl _ _).alloc _).alloc _)
  have HBV : Hid (Blk ((w.alloc (.cells #[.int .i64 v.k, .int .i64 v.i, .int .i64 v.s, .string v.t, .slice v.la v.ln v.lc, .slice v.fa v.fn v.fc] 25)).alloc (.cells #[.int .i64 k, .int .i64 i, .string nm] 44)) w.heap.size 25 #[.int .i64 v.k, .int .i64 v.i, .int .i64 v.s, .string v.t, .slice v.la v.ln v.lc, .slice v.fa v.fn v.fc]) := Lib.hid ((Blk.new _ _ _).alloc _)
  have HBP : Hid (Blk ((w.alloc (.cells #[.int .i64 v.k, .int .i64 v.i, .int .i64 v.s, .string v.t, .slice v.la v.ln v.lc, .slice v.fa v.fn v.fc] 25)).alloc (.cells #[.int .i64 k, .int .i64 i, .string nm] 44)) (w.heap.size + 1) 44 #[.int .i64 k, .int .i64 i, .string nm]) := Lib.hid (by
    have := Blk.new (w.alloc (.cells #[.int .i64 v.k, .int .i64 v.i, .int .i64 v.s, .string v.t, .slice v.la v.ln v.lc, .slice v.fa v.fn v.fc] 25)) 44 #[.int .i64 k, .int .i64 i, .string nm]
    simpa using this)
  have HAPB : Hid (appB ⟨k, i, nm⟩ v = appT ⟨k, i, nm⟩ T) := HAPP
  obtain ⟨i0, hi0, hz0, hz1, hz2⟩ := info_parts infoV
  by_cases h1 : k = 1
  · subst h1
    have HR : Hid ((v.k == 9) = appT ⟨1, i, nm⟩ T) := Lib.hid (by rw [← HAPB.out]; rfl)
    go_enter Tryd.func40, Tryd.ntmps40
    go_wp2_with fail
    go_loopw [4, 6] (fun ov iv wx => ∃ q : Nat, iv = .int .i64 (q : Int) ∧ q ≤ v.fn ∧ Hid (Only Nobody ((w.alloc (.cells #[.int .i64 v.k, .int .i64 v.i, .int .i64 v.s, .string v.t, .slice v.la v.ln v.lc, .slice v.fa v.fn v.fc] 25)).alloc (.cells #[.int .i64 1, .int .i64 i, .string nm] 44)) wx) ∧ ((ov = .slice none 0 0 ∧ Hid (isF T.f nm q)) ∨ (∃ (o : FC) (x : ByteArray × VT) (A : Option Addr) (c : Nat), ov = .slice A 1 c ∧ Hid (leadL ⟨1, i, nm⟩ T = [x.2]) ∧ Hid (VAt w S n o.v x.2) ∧ Hid (wx.ownsRow w.heap.size 25 6 ov 1 (cells VC.vals [o.v]))))) (fun _ iv _ => v.fn - (intOf iv).toNat)
    case atStart => exact ⟨0, rfl, Nat.zero_le _, Lib.hid (Only.refl _ _), .inl ⟨rfl, Lib.hid (fun _ _ h => absurd h (by omega))⟩⟩
    case round =>
      obtain ⟨q, rfl, hq, HON, hor⟩ := hrel
      have hq0 : (0 : Int) ≤ (q : Int) := by omega
      have HBLV := Lib.hid (HON.out.blk HBV.out (fun x => x))
      have HBLP := Lib.hid (HON.out.blk HBP.out (fun x => x))
      have b5 : wr.cell? ⟨w.heap.size, 5, none⟩ = some (.slice v.fa v.fn v.fc) := HBLV.out.cell 5
      have b0 : wr.cell? ⟨w.heap.size, 0, none⟩ = some (.int .i64 v.k) := HBLV.out.cell 0
      have p2 : wr.cell? ⟨w.heap.size + 1, 2, none⟩ = some (.string nm) := HBLP.out.cell 2
      rcases hor with ⟨rfl, HNF⟩ | ⟨o, x, A, c, rfl, HLD, HAX, HRW⟩
      · by_cases hqn : q < v.fn
        · have hqI : (q : Int) < (v.fn : Int) := by omega
          obtain ⟨ad, had⟩ := HF.out.some_ (by omega)
          obtain ⟨o, ho⟩ := HF.out.get hqn
          obtain ⟨x, hx, hnm, hax⟩ := HB.out.get ho
          have HFW := HF.out.same (HO2.out.trans HON.out)
          rw [had] at HFW b5
          obtain ⟨a0, a1, a2, a3, a4, a5, a6⟩ := HFW.fat ho
          have HX := Lib.hid hx
          have HNM := Lib.hid hnm
          have HAX := Lib.hid hax
          clear HFW ho hx hnm hax had
          by_cases hc : o.n = nm
          · have HFD : Hid (fieldL T.f nm = some q) := Lib.hid (fieldL_hit HNF.out HX.out (by rw [← HNM.out]; exact hc))
            have HLD : Hid (leadL ⟨1, i, nm⟩ T = [x.2]) := Lib.hid (by unfold leadL; simp [HFD.out, HX.out])
            have hcb : (o.n.toList == nm.toList) = true := by rw [bytes_eq, decide_eq_true hc]
            have hcl : o.n.toList = nm.toList := by rw [hc]
            clear hc
            go_upto_region 6 with fail
            go_quiet (fail)
            obtain ⟨wy, HWY⟩ : ∃ wy, Hid (wy = wr.drewN nq) := ⟨_, Lib.hid rfl⟩
            rw [← HWY.out]
            have HYR : Hid (Only Nobody wr wy) := Lib.hid (by rw [HWY.out]; exact (Only.refl _ _).drewN _)
            have HOW : Hid (Only Nobody w wy) := Lib.hid ((HO2.out.trans HON.out).trans HYR.out)
            have y5 : wy.cell? ⟨w.heap.size, 5, none⟩ = some (.slice (some ad) v.fn v.fc) := by rw [HWY.out]; exact b5
            have z1 : wy.cell? ⟨(ad.add (q * 7)).block, (ad.add (q * 7)).off + 1, none⟩ = some (.int .i64 o.v.k) := by rw [HWY.out]; exact a1
            have z2 : wy.cell? ⟨(ad.add (q * 7)).block, (ad.add (q * 7)).off + 2, none⟩ = some (.int .i64 o.v.i) := by rw [HWY.out]; exact a2
            have z3 : wy.cell? ⟨(ad.add (q * 7)).block, (ad.add (q * 7)).off + 3, none⟩ = some (.int .i64 o.v.s) := by rw [HWY.out]; exact a3
            have z4 : wy.cell? ⟨(ad.add (q * 7)).block, (ad.add (q * 7)).off + 4, none⟩ = some (.string o.v.t) := by rw [HWY.out]; exact a4
            have z5 : wy.cell? ⟨(ad.add (q * 7)).block, (ad.add (q * 7)).off + 5, none⟩ = some (.slice o.v.la o.v.ln o.v.lc) := by rw [HWY.out]; exact a5
            have z6 : wy.cell? ⟨(ad.add (q * 7)).block, (ad.add (q * 7)).off + 6, none⟩ = some (.slice o.v.fa o.v.fn o.v.fc) := by rw [HWY.out]; exact a6
            clear b5 b0 p2 a0 a1 a2 a3 a4 a5 a6
            have HRD : Hid (Reads (wy.alloc (.cells #[.int .i64 o.v.k, .int .i64 o.v.i, .int .i64 o.v.s, .string o.v.t, .slice o.v.la o.v.ln o.v.lc, .slice o.v.fa o.v.fn o.v.fc] 25)) (wy.heap.size + 1) 6 (some ⟨wy.heap.size, 0, none⟩) 1 o.v.vals) := Lib.hid (reads_alloc wy 25 #[.int .i64 o.v.k, .int .i64 o.v.i, .int .i64 o.v.s, .string o.v.t, .slice o.v.la o.v.ln o.v.lc, .slice o.v.fa o.v.fn o.v.fc] 6 1 rfl)
            have HRW0 : Hid ((wy.alloc (.cells #[.int .i64 o.v.k, .int .i64 o.v.i, .int .i64 o.v.s, .string o.v.t, .slice o.v.la o.v.ln o.v.lc, .slice o.v.fa o.v.fn o.v.fc] 25)).ownsRow w.heap.size 25 6 (.slice none 0 0) 0 []) := Lib.hid ⟨rfl, .inl ⟨rfl, rfl⟩⟩
            have HU := Lib.hid (one_v o.v)
            have HBB : Hid (w.heap.size ≤ (wy.alloc (.cells #[.int .i64 o.v.k, .int .i64 o.v.i, .int .i64 o.v.s, .string o.v.t, .slice o.v.la o.v.ln o.v.lc, .slice o.v.fa o.v.fn o.v.fc] 25)).heap.size) := Lib.hid (by have := HOW.out.size; simp; omega)
            have HBY : Hid (0 + 1 ≤ maxLen ∧ (0 + 1) * 88 ≤ 140737488355328) := Lib.hid (by unfold maxLen; omega)
            go_upto_region 7 with fail
            go_wp2_with (at_builtin; refine wpList_append_any _ rfl (.tmp 32) (.tmp 39) _ rfl w.heap.size 25 i0 _ 6 88 Tryd.underlying22 hi0 hz0 hz1 hz2 rfl (by omega) (.slice none 0 0) 0 [] rfl HRW0.out _ (some ⟨wy.heap.size, 0, none⟩) 1 1 o.v.vals rfl HRD.out HU.out HBY.out.1 HBY.out.2 HBB.out ?_)
            intro v5 w5 hown5 hgr5 hat5
            obtain ⟨A5, c5, rfl⟩ := own_form hown5
            have HOW5 : Hid (Only Nobody wy w5) := Lib.hid (((Only.refl _ _).alloc _).trans (Only.of_grown hgr5 (fun b e => by cases e)))
            have HOWN5 : Hid (w5.ownsRow w.heap.size 25 6 (.slice A5 1 c5) 1 (cells VC.vals [o.v])) := Lib.hid (by simpa [cells] using hown5)
            clear hown5 hgr5 hat5
            have HONn := Lib.hid (HON.out.trans (HYR.out.trans HOW5.out))
            go_wp2_with fail
            go_roundw
            case rel => first | exact ⟨q + 1, by go_num, by omega, HONn, .inr ⟨o, x, A5, c5, rfl, HLD, HAX, HOWN5⟩⟩ | ((repeat apply Exists.intro); exact ⟨⟨q + 1, by go_num, by omega, HONn, .inr ⟨o, x, A5, c5, rfl, HLD, HAX, HOWN5⟩⟩, rfl⟩)
            case measure => simp [intOf]; omega
          · have HNF2 := Lib.hid (HNF.out.next HX.out (by rw [← HNM.out]; exact hc))
            have hcb : (o.n.toList == nm.toList) = false := by rw [bytes_eq, decide_eq_false hc]
            have hcl : ¬ o.n.toList = nm.toList := by simpa using hcb
            clear hc
            go_upto_region 6 with fail
            go_quiet (fail)
            have HONn := Lib.hid (HON.out.drewN nq)
            go_wp2_with fail
            go_roundw
            case rel => first | exact ⟨q + 1, by go_num, by omega, HONn, .inl ⟨rfl, HNF2⟩⟩ | ((repeat apply Exists.intro); exact ⟨⟨q + 1, by go_num, by omega, HONn, .inl ⟨rfl, HNF2⟩⟩, rfl⟩)
            case measure => simp [intOf]; omega
        · obtain rfl : q = v.fn := by omega
          have HLD : Hid (leadL ⟨1, i, nm⟩ T = []) := Lib.hid (by
            have : fieldL T.f nm = none := fieldL_none (by rw [HTF.out]; exact HNF.out)
            unfold leadL; simp [this])
          go_upto_region 8 with fail
          go_quiet (fail)
          go_wp2_with fail
          go_ret2
          exact ⟨_, _, _, [], ret2_sl HR.out, RowA.nil_, fun _ => by rw [HLD.out]; exact All2.nil_, (HO2.out.trans HON.out).drewN _⟩
      · by_cases hqn : q < v.fn
        · have hqI : (q : Int) < (v.fn : Int) := by omega
          go_upto_region 8 with fail
          go_quiet (fail)
          go_wp2_with fail
          go_ret2
          exact ⟨_, _, _, [o.v], ret2_sl HR.out, (RowA.of_own vlen (by omega) ((Only.refl Nobody wr).drewN nq |>.row HRW.out (fun _ _ x => x))).mono fun _ _ _ => trivial, fun _ => by rw [HLD.out]; exact All2.one (HAX.out.same ((HO2.out.trans HON.out).drewN _)).up, (HO2.out.trans HON.out).drewN _⟩
        · have hqI : ¬ (q : Int) < (v.fn : Int) := by omega
          go_upto_region 8 with fail
          go_quiet (fail)
          go_wp2_with fail
          go_ret2
          exact ⟨_, _, _, [o.v], ret2_sl HR.out, (RowA.of_own vlen (by omega) ((Only.refl Nobody wr).drewN nq |>.row HRW.out (fun _ _ x => x))).mono fun _ _ _ => trivial, fun _ => by rw [HLD.out]; exact All2.one (HAX.out.same ((HO2.out.trans HON.out).drewN _)).up, (HO2.out.trans HON.out).drewN _⟩
  have hk1 : (k == 1) = false := by simpa using h1
  by_cases h2 : k = 2
  · subst h2
    have HR : Hid ((v.k == 8) = appT ⟨2, i, nm⟩ T) := Lib.hid (by rw [← HAPB.out]; rfl)
    have hi0' : 0 ≤ i := by
      have : (nm.size = 0 ∧ 0 ≤ i) ∧ i < 256 := by simpa [validB] using hv
      exact this.1.2
    obtain ⟨j, rfl⟩ : ∃ j : Nat, i = (j : Int) := ⟨i.toNat, by omega⟩
    by_cases hjl : j < v.ln
    · have hjI : (j : Int) < (v.ln : Int) := by omega
      obtain ⟨o, ho⟩ := HV.out.get hjl
      obtain ⟨x, hx, hax⟩ := HA.out.get ho
      have HL : Hid (leadL ⟨2, (j : Int), nm⟩ T = [x]) := Lib.hid (by
        unfold leadL
        have hl : j < T.l.length := (List.getElem?_eq_some_iff.1 hx).1
        have he : T.l[j] = x := (List.getElem?_eq_some_iff.1 hx).2
        simp [hl, he])
      obtain ⟨ad, had⟩ := HV.out.some_ (by omega)
      have HOO := Lib.hid ho
      have HAX := Lib.hid hax
      obtain ⟨wy, HWY⟩ : ∃ wy, Hid (wy = (w.alloc (.cells #[.int .i64 v.k, .int .i64 v.i, .int .i64 v.s, .string v.t, .slice v.la v.ln v.lc, .slice v.fa v.fn v.fc] 25)).alloc (.cells #[.int .i64 2, .int .i64 (j : Int), .string nm] 44)) := ⟨_, Lib.hid rfl⟩
      rw [← HWY.out] at HO2 HBV HBP
      have HVA := HV.out.same HO2.out
      rw [had] at HVA
      obtain ⟨a0, a1, a2, a3, a4, a5⟩ := HVA.vat ho
      have b0 : wy.cell? ⟨w.heap.size, 0, none⟩ = some (.int .i64 v.k) := HBV.out.cell 0
      have b3 : wy.cell? ⟨w.heap.size, 3, none⟩ = some (.string v.t) := HBV.out.cell 3
      have b4 : wy.cell? ⟨w.heap.size, 4, none⟩ = some (.slice (some ad) v.ln v.lc) := by rw [← had]; exact HBV.out.cell 4
      have e0 : wy.cell? ⟨w.heap.size + 1, 0, none⟩ = some (.int .i64 2) := HBP.out.cell 0
      have e1 : wy.cell? ⟨w.heap.size + 1, 1, none⟩ = some (.int .i64 (j : Int)) := HBP.out.cell 1
      have e2 : wy.cell? ⟨w.heap.size + 1, 2, none⟩ = some (.string nm) := HBP.out.cell 2
      have HOW := HO2
      have HADD := Lib.hid had
      clear ho hx hax HVA had hv
      go_enter Tryd.func40, Tryd.ntmps40
      go_upto_region 10 with fail
      rw [← HWY.out]
      have HRD : Hid (Reads (wy.alloc (.cells #[.int .i64 o.k, .int .i64 o.i, .int .i64 o.s, .string o.t, .slice o.la o.ln o.lc, .slice o.fa o.fn o.fc] 25)) (wy.heap.size + 1) 6 (some ⟨wy.heap.size, 0, none⟩) 1 o.vals) := Lib.hid (reads_alloc wy 25 #[.int .i64 o.k, .int .i64 o.i, .int .i64 o.s, .string o.t, .slice o.la o.ln o.lc, .slice o.fa o.fn o.fc] 6 1 rfl)
      have HRW0 : Hid ((wy.alloc (.cells #[.int .i64 o.k, .int .i64 o.i, .int .i64 o.s, .string o.t, .slice o.la o.ln o.lc, .slice o.fa o.fn o.fc] 25)).ownsRow w.heap.size 25 6 (.slice none 0 0) 0 []) := Lib.hid ⟨rfl, .inl ⟨rfl, rfl⟩⟩
      have HU := Lib.hid (one_v o)
      have HBB : Hid (w.heap.size ≤ (wy.alloc (.cells #[.int .i64 o.k, .int .i64 o.i, .int .i64 o.s, .string o.t, .slice o.la o.ln o.lc, .slice o.fa o.fn o.fc] 25)).heap.size) := Lib.hid (by have := HOW.out.size; simp; omega)
      have HBY : Hid (0 + 1 ≤ maxLen ∧ (0 + 1) * 88 ≤ 140737488355328) := Lib.hid (by unfold maxLen; omega)
      go_upto_region 11 with fail
      go_wp2_with (at_builtin; refine wpList_append_any _ rfl (.tmp 53) (.tmp 60) _ rfl w.heap.size 25 i0 _ 6 88 Tryd.underlying22 hi0 hz0 hz1 hz2 rfl (by omega) (.slice none 0 0) 0 [] rfl HRW0.out _ (some ⟨wy.heap.size, 0, none⟩) 1 1 o.vals rfl HRD.out HU.out HBY.out.1 HBY.out.2 HBB.out ?_)
      intro v5 w5 hown5 hgr5 hat5
      obtain ⟨A5, c5, rfl⟩ := own_form hown5
      have HOW5 : Hid (Only Nobody wy w5) := Lib.hid (((Only.refl _ _).alloc _).trans (Only.of_grown hgr5 (fun b e => by cases e)))
      have HOWN5 : Hid (w5.ownsRow w.heap.size 25 6 (.slice A5 1 c5) 1 (cells VC.vals [o])) := Lib.hid (by simpa [cells] using hown5)
      have HV5 := Lib.hid (HOW5.out.blk HBV.out (fun x => x))
      have g0 : w5.cell? ⟨w.heap.size, 0, none⟩ = some (.int .i64 v.k) := HV5.out.cell 0
      clear hown5 hgr5 hat5
      clear a0 a1 a2 a3 a4 a5 b0 b3 b4 e0 e1 e2
      go_wp2_with fail
      go_quiet (fail)
      go_wp2_with fail
      go_ret2
      exact ⟨_, _, _, [o], ret2_sl HR.out, (RowA.of_own vlen (by omega) ((Only.refl Nobody w5).drewN nq |>.row HOWN5.out (fun _ _ x => x))).mono fun _ _ _ => trivial, fun _ => by rw [HL.out]; exact All2.one (HAX.out.same ((HO2.out.trans HOW5.out).drewN _)).up, (HO2.out.trans HOW5.out).drewN _⟩
    · have hjI : ¬ (j : Int) < (v.ln : Int) := by omega
      have HL : Hid (leadL ⟨2, (j : Int), nm⟩ T = []) := Lib.hid (by
        unfold leadL
        have hl : ¬ j < T.l.length := by rw [HTL.out]; exact hjl
        simp [hl])
      clear hv
      go_enter Tryd.func40, Tryd.ntmps40
      go_wp2_with fail
      go_quiet (fail)
      go_wp2_with fail
      go_ret2
      exact ⟨_, _, _, [], ret2_sl HR.out, RowA.nil_, fun _ => by rw [HL.out]; exact All2.nil_, HO2.out.drewN _⟩
  have hk2 : (k == 2) = false := by simpa using h2
  by_cases h3 : k = 3
  · subst h3
    have HR : Hid ((v.k == 8) = appT ⟨3, i, nm⟩ T) := Lib.hid (by rw [← HAPB.out]; rfl)
    have HL : Hid (leadL ⟨3, i, nm⟩ T = T.l) := Lib.hid (by unfold leadL; simp)
    clear hv
    go_enter Tryd.func40, Tryd.ntmps40
    go_wp2_with fail
    go_quiet (fail)
    go_wp2_with fail
    go_ret2
    exact ⟨_, _, _, V, ret2_sl HR.out, (HV.out.same (HO2.out.drewN _)).mono fun _ _ _ => trivial, fun _ => by rw [HL.out]; exact HA.out.imp fun _ _ h => (h.same (HO2.out.drewN _)).up, HO2.out.drewN _⟩
  have hk3 : (k == 3) = false := by simpa using h3
  have h4 : k = 4 := by
    by_cases h4 : k = 4
    · exact h4
    · simp [validB, h1, h2, h3, h4] at hv
  subst h4
  clear hv
  by_cases hvk : v.k = 10
  case neg =>
    have hvb : (v.k == 10) = false := by simpa using hvk
    have hvc : (v.k != 10) = true := by rw [bne, hvb]; rfl
    have HR : Hid (false = appT ⟨4, i, nm⟩ T) := Lib.hid (by rw [← HAPB.out]; unfold appB; simp [hvk])
    clear hvk
    go_enter Tryd.func40, Tryd.ntmps40
    go_wp2_with fail
    go_ret2
    exact ⟨_, _, _, [], ret2_sl HR.out, RowA.nil_, fun h => absurd (HR.out.trans h) (by decide), HO2.out⟩
  have hvb : (v.k == 10) = true := by simpa using hvk
  have hvc : (v.k != 10) = false := by rw [bne, hvb]; rfl
  by_cases hl1 : v.ln = 1
  case neg =>
    have hlb : ((v.ln : Int) == 1) = false := by simp; omega
    have hlc' : ((v.ln : Int) != 1) = true := by rw [bne, hlb]; rfl
    have hli : ¬ (v.ln : Int) = 1 := by omega
    have HR : Hid (false = appT ⟨4, i, nm⟩ T) := Lib.hid (by rw [← HAPB.out]; unfold appB; simp [hvk, hli])
    clear hvk hl1 hli
    go_enter Tryd.func40, Tryd.ntmps40
    go_wp2_with fail
    go_ret2
    exact ⟨_, _, _, [], ret2_sl HR.out, RowA.nil_, fun h => absurd (HR.out.trans h) (by decide), HO2.out⟩
  have hlb : ((v.ln : Int) == 1) = true := by rw [hl1]; rfl
  have hlc' : ((v.ln : Int) != 1) = false := by rw [bne, hlb]; rfl
  have HR : Hid (true = appT ⟨4, i, nm⟩ T) := Lib.hid (by rw [← HAPB.out]; unfold appB; simp [hl1, hvk])
  by_cases hnt : v.t = nm
  case neg =>
    have HL : Hid (leadL ⟨4, i, nm⟩ T = []) := Lib.hid (by unfold leadL; simp [← HTT.out, hnt])
    have hnb : (v.t.toList == nm.toList) = false := by rw [bytes_eq, decide_eq_false hnt]
    have hnc : ¬ v.t.toList = nm.toList := by simpa using hnb
    clear hnt hvk hl1
    go_enter Tryd.func40, Tryd.ntmps40
    go_wp2_with fail
    go_ret2
    exact ⟨_, _, _, [], ret2_sl HR.out, RowA.nil_, fun _ => by rw [HL.out]; exact All2.nil_, HO2.out⟩
  have HL : Hid (leadL ⟨4, i, nm⟩ T = T.l) := Lib.hid (by unfold leadL; simp [← HTT.out, hnt])
  have hnb : (v.t.toList == nm.toList) = true := by rw [bytes_eq, decide_eq_true hnt]
  have hnc : v.t.toList = nm.toList := by rw [hnt]
  obtain ⟨ad, had⟩ := HV.out.some_ (by omega)
  obtain ⟨o, ho⟩ := HV.out.get (i := 0) (by omega)
  obtain ⟨x, hx, hax⟩ := HA.out.get ho
  have HLX : Hid (T.l = [x]) := Lib.hid (by
    have hl : T.l.length = 1 := by rw [HTL.out, hl1]
    match hh : T.l, hl, hx with
    | [y], _, hx => simp at hx; rw [hx])
  have HAX := Lib.hid hax
  have hl0 : (0 : Int) < (v.ln : Int) := by omega
  obtain ⟨wy, HWY⟩ : ∃ wy, Hid (wy = (w.alloc (.cells #[.int .i64 v.k, .int .i64 v.i, .int .i64 v.s, .string v.t, .slice v.la v.ln v.lc, .slice v.fa v.fn v.fc] 25)).alloc (.cells #[.int .i64 4, .int .i64 i, .string nm] 44)) := ⟨_, Lib.hid rfl⟩
  rw [← HWY.out] at HO2 HBV HBP
  have HVA := HV.out.same HO2.out
  rw [had] at HVA
  obtain ⟨a0, a1, a2, a3, a4, a5⟩ := HVA.vat ho
  rw [Nat.zero_mul, addr_zero] at a0 a1 a2 a3 a4 a5
  have b3 : wy.cell? ⟨w.heap.size, 3, none⟩ = some (.string v.t) := HBV.out.cell 3
  have b4 : wy.cell? ⟨w.heap.size, 4, none⟩ = some (.slice (some ad) v.ln v.lc) := by rw [← had]; exact HBV.out.cell 4
  have e2 : wy.cell? ⟨w.heap.size + 1, 2, none⟩ = some (.string nm) := HBP.out.cell 2
  have HOW := HO2
  clear ho hx hax HVA had hnt hvk hl1
  go_enter Tryd.func40, Tryd.ntmps40
  go_upto_region 17 with fail
  rw [← HWY.out]
  have HRD : Hid (Reads (wy.alloc (.cells #[.int .i64 o.k, .int .i64 o.i, .int .i64 o.s, .string o.t, .slice o.la o.ln o.lc, .slice o.fa o.fn o.fc] 25)) (wy.heap.size + 1) 6 (some ⟨wy.heap.size, 0, none⟩) 1 o.vals) := Lib.hid (reads_alloc wy 25 #[.int .i64 o.k, .int .i64 o.i, .int .i64 o.s, .string o.t, .slice o.la o.ln o.lc, .slice o.fa o.fn o.fc] 6 1 rfl)
  have HRW0 : Hid ((wy.alloc (.cells #[.int .i64 o.k, .int .i64 o.i, .int .i64 o.s, .string o.t, .slice o.la o.ln o.lc, .slice o.fa o.fn o.fc] 25)).ownsRow w.heap.size 25 6 (.slice none 0 0) 0 []) := Lib.hid ⟨rfl, .inl ⟨rfl, rfl⟩⟩
  have HU := Lib.hid (one_v o)
  have HBB : Hid (w.heap.size ≤ (wy.alloc (.cells #[.int .i64 o.k, .int .i64 o.i, .int .i64 o.s, .string o.t, .slice o.la o.ln o.lc, .slice o.fa o.fn o.fc] 25)).heap.size) := Lib.hid (by have := HOW.out.size; simp; omega)
  have HBY : Hid (0 + 1 ≤ maxLen ∧ (0 + 1) * 88 ≤ 140737488355328) := Lib.hid (by unfold maxLen; omega)
  go_upto_region 18 with fail
  go_wp2_with (at_builtin; refine wpList_append_any _ rfl (.tmp 87) (.tmp 92) _ rfl w.heap.size 25 i0 _ 6 88 Tryd.underlying22 hi0 hz0 hz1 hz2 rfl (by omega) (.slice none 0 0) 0 [] rfl HRW0.out _ (some ⟨wy.heap.size, 0, none⟩) 1 1 o.vals rfl HRD.out HU.out HBY.out.1 HBY.out.2 HBB.out ?_)
  intro v5 w5 hown5 hgr5 hat5
  obtain ⟨A5, c5, rfl⟩ := own_form hown5
  have HOW5 : Hid (Only Nobody wy w5) := Lib.hid (((Only.refl _ _).alloc _).trans (Only.of_grown hgr5 (fun b e => by cases e)))
  have HOWN5 : Hid (w5.ownsRow w.heap.size 25 6 (.slice A5 1 c5) 1 (cells VC.vals [o])) := Lib.hid (by simpa [cells] using hown5)
  have HV5 := Lib.hid (HOW5.out.blk HBV.out (fun x => x))
  have g0 : w5.cell? ⟨w.heap.size, 0, none⟩ = some (.int .i64 v.k) := HV5.out.cell 0
  clear hown5 hgr5 hat5
  clear a0 a1 a2 a3 a4 a5 b3 b4 e2
  go_wp2_with fail
  go_ret2
  exact ⟨_, _, _, [o], ret2_sl HR.out, (RowA.of_own vlen (by omega) HOWN5.out).mono fun _ _ _ => trivial, fun _ => by rw [HL.out, HLX.out]; exact All2.one (HAX.out.same (HO2.out.trans HOW5.out)).up, HO2.out.trans HOW5.out⟩
end Go.Proofs.YtdccckoelnnnoaaDoor
