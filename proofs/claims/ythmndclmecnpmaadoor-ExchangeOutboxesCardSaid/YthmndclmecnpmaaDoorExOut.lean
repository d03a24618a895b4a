/- The walk of the law ExchangeOutboxes. -/
import Derived.Test.YthmndclmecnpmaaDoorExPr
import Derived.Deep.CutRange
import Derived.Deep.CutBlock
namespace Go.Proofs.YthmndclmecnpmaaDoor
open Go.RowKit
attribute [local go_sem ↓] Go.wp_at_zero Go.wp_at_succ

theorem Only.setAt {a w : World} {Y i : Nat} (h : Only (fun x => x = Y) a w) (u : Value) : Only (fun x => x = Y) a (w.setCell ⟨Y, i, none⟩ u) := h.setCell (p := ⟨Y, i, none⟩) (.inl rfl) u
theorem add_off3 (ad : Addr) (i k : Nat) (hk : 0 < k) : ad.add (i * 3 + k) = ⟨(ad.add (i * 3)).block, (ad.add (i * 3)).off + k, none⟩ := by
  unfold Addr.add
  split <;> split <;> simp_all <;> omega
/-- The three cells of an Op, as a walk writes their addresses. -/
structure OpCells (w : World) (ad : Addr) (i : Nat) (o : Op3) : Prop where
  c0 : w.cell? (ad.add (i * 3)) = some (.int .u8 o.kind.toNat)
  c1 : w.cell? ⟨(ad.add (i * 3)).block, (ad.add (i * 3)).off + 1, none⟩ = some (.int .i8 o.num)
  c2 : w.cell? ⟨(ad.add (i * 3)).block, (ad.add (i * 3)).off + 2, none⟩ = some (.int .u8 o.time.toNat)
theorem op_cells {w0 w : World} {ad : Addr} {n c : Nat} {X : List Op3} {i : Nat} {o : Op3} (h : Given w0 3 (some ad) n c (opVals X)) (hi : X[i]? = some o) (hb : Only Nobody w0 w) : OpCells w ad i o := by
  have h2 := h.rd.below (hb.below_all (fun _ _ x => x))
  have hl : i < X.length := (List.getElem?_eq_some_iff.1 hi).1
  have hn := h2.1
  rw [opVals_length] at hn
  obtain ⟨ad', e, _, hc⟩ := h2.2 (by omega)
  injection e with e
  subst e
  refine ⟨hc _ _ (opVals_get X i o hi 0 _ rfl), ?_, ?_⟩
  · rw [← add_off3 ad i 1 (by omega)]; exact hc _ _ (opVals_get X i o hi 1 _ rfl)
  · rw [← add_off3 ad i 2 (by omega)]; exact hc _ _ (opVals_get X i o hi 2 _ rfl)
theorem ops_some {w0 : World} {A : Option Addr} {n c : Nat} {X : List Op3} (h : Given w0 3 A n c (opVals X)) (hn : 0 < X.length) : ∃ ad, A = some ad := by
  have h2 := h.rd.1
  rw [opVals_length] at h2
  obtain ⟨ad, e, _⟩ := h.rd.2 (by omega)
  exact ⟨ad, e⟩

set_option maxRecDepth 100000 in
set_option maxHeartbeats 4000000 in
theorem lawOut (a : Int) (ha1 : -9223372036854775808 ≤ a) (ha2 : a ≤ 9223372036854775807) (A : Option Addr) (n c : Nat) (X : List Op3) (w : World) (hX : Given w 3 A n c (opVals X)) (hN : X.length = n) (ht : CalTab w) : Calls Tryd.prog 6 #[.int .i64 a, .slice A n c] w fun e w' => e = .returned (.bool true) ∧ Only Nobody w w' := by
  have HT := Lib.hid ht
  have HXX := Lib.hid hX
  have HXN := Lib.hid hN
  clear ht hX hN
  by_cases h200 : 200 < n
  · have h200I : (200 : Int) < (n : Int) := by omega
    go_enter Tryd.func6, Tryd.ntmps6
    go_wp2_with fail
    refine (known_any _ HT.out).mono ?_
    rintro e w1 ⟨rfl, ho1⟩
    have HO1 := Lib.hid ho1
    have HT1 := Lib.hid (HT.out.same ho1)
    clear ho1
    go_wp2_with fail
    refine (known_any _ HT1.out).mono ?_
    rintro e w2 ⟨rfl, ho2⟩
    have HO2 := Lib.hid (HO1.out.trans ho2)
    clear ho2
    go_wp2_with fail
    go_ret
    exact ⟨rfl, HO2.out⟩
  have h200I : ¬ (200 : Int) < (n : Int) := by omega
  by_cases hr : 0 ≤ a ∧ a ≤ 1099511627776
  · obtain ⟨m, rfl⟩ : ∃ m : Nat, a = (m : Int) := ⟨a.toNat, by omega⟩
    have hm : m ≤ 1099511627776 := by omega
    have hm0 : (0 : Int) ≤ (m : Int) := by omega
    have hmI : (m : Int) ≤ 1099511627776 := by omega
    clear hr ha1 ha2
    go_enter Tryd.func6, Tryd.ntmps6
    go_wp2_with fail
    refine (known_any _ HT.out).mono ?_
    rintro e w1 ⟨rfl, ho1⟩
    have HO1 := Lib.hid ho1
    clear ho1
    go_wp2_with fail
    refine (newOutbox_ok m hm _).mono ?_
    rintro e w2 ⟨rfl, hx2, hb2⟩
    obtain ⟨O, HOO⟩ : ∃ O, Hid (O = w1.heap.size) := ⟨_, Lib.hid rfl⟩
    rw [← HOO.out] at hx2 ⊢
    have HP2 : Hid (Pr w (w2.alloc (.cells #[.int .i64 (m : Int), .slice none 0 0] 60)) (fun _ => False) O ⟨m, []⟩ (.slice none 0 0) w2.heap.size ⟨m, []⟩ (.slice none 0 0)) := Lib.hid (by
      have h1 : OwnO O (.slice none 0 0) = (· = O) := by funext k; simp [OwnO, Value.ownBlock]
      have h2 : OwnO w2.heap.size (.slice none 0 0) = (· = w2.heap.size) := by funext k; simp [OwnO, Value.ownBlock]
      have h3 := hx2.blk.lt
      have h4 := HO1.out.size
      have h5 := HOO.out
      have h6 := Only.of_below hb2 Nobody
      have h7 := h6.size
      refine ⟨hx2.same ((Only.refl _ _).alloc _), ⟨Blk.new w2 _ _, RowAt.nil_ _ _ _ _⟩, ?_, ?_, fun k hk => hk.elim, (HO1.out.trans h6).alloc _⟩
      · rw [h1, h2]
        intro k hk
        rcases hk with e | e <;> omega
      · rw [h1, h2]
        intro k e e2
        omega)
    clear hx2 hb2
    go_wp2_with fail
    obtain ⟨M, HMM⟩ : ∃ M, Hid (M = w2.heap.size) := ⟨_, Lib.hid rfl⟩
    rw [← HMM.out] at HP2 ⊢
    go_loopw [8] (fun i wx => ∃ (j : Nat) (S : OutS) (v vm : Value), i = .int .i64 (j : Int) ∧ j ≤ n ∧ Hid (Pr w wx (fun _ => False) O S v M S vm) ∧ Hid (Fits S m j)) (fun i _ => n - (intOf i).toNat)
    case atStart => exact ⟨0, ⟨m, []⟩, .slice none 0 0, .slice none 0 0, rfl, Nat.zero_le _, HP2, Lib.hid ⟨Nat.le_refl _, Nat.le_refl _⟩⟩
    case round =>
      obtain ⟨j, S, v, vm, rfl, hj, HP, HFI⟩ := hrel
      by_cases hjn : j < n
      · have hjI : (j : Int) < (n : Int) := by omega
        have hj0 : (0 : Int) ≤ (j : Int) := by omega
        obtain ⟨o, ho⟩ : ∃ o, X[j]? = some o := ⟨_, List.getElem?_eq_getElem (by rw [HXN.out]; exact hjn)⟩
        obtain ⟨ad, rfl⟩ := ops_some HXX.out (by rw [HXN.out]; omega)
        obtain ⟨hc0, hc1, hc2⟩ := op_cells HXX.out ho HP.out.only
        have HB := Lib.hid (show S.acked ≤ 2000000000000 ∧ S.l.length ≤ 5000 from by have := HFI.out.1; have := HFI.out.2; omega)
        clear ho
        go_upto_block 2 with fail
        obtain ⟨Wa, HWa⟩ : ∃ W : World, Hid (W = wr.alloc (.cells #[.int .u8 o.kind.toNat, .int .i8 o.num, .int .u8 o.time.toNat] 34)) := ⟨_, Lib.hid rfl⟩
        obtain ⟨b, HBN⟩ : ∃ b, Hid (b = wr.heap.size) := ⟨_, Lib.hid rfl⟩
        rw [← HWa.out, ← HBN.out]
        have HBC : Hid (Blk Wa b 34 #[.int .u8 o.kind.toNat, .int .i8 o.num, .int .u8 o.time.toNat]) := Lib.hid (by rw [HWa.out, HBN.out]; exact Blk.new wr _ _)
        have HPA : Hid (Pr w Wa (· = b) O S v M S vm) := Lib.hid (by
          have h1 : Pr w Wa (fun _ => False) O S v M S vm := by rw [HWa.out]; exact HP.out.same ((Only.refl _ _).alloc _)
          refine h1.more HBC.out.lt (fun k hk e => ?_) (fun k hk => .inr hk)
          have h2 : k < wr.heap.size := by
            rcases hk with hk | hk
            · exact HP.out.o.lt k hk
            · exact HP.out.m.lt k hk
          rw [e, HBN.out] at h2
          omega)
        clear hc0 hc1 hc2
        have e0 : Wa.cell? ⟨b, 0, none⟩ = some (.int .u8 o.kind.toNat) := HBC.out.cell 0
        have e1 : Wa.cell? ⟨b, 1, none⟩ = some (.int .i8 o.num) := HBC.out.cell 1
        have e2 : Wa.cell? ⟨b, 2, none⟩ = some (.int .u8 o.time.toNat) := HBC.out.cell 2
        obtain ⟨q, hq, hq6⟩ : ∃ q : Nat, (o.kind.toNat : Int) % 6 = (q : Int) ∧ q < 6 := ⟨o.kind.toNat % 6, by omega, by omega⟩
        go_cut [10, 11] from 42 to 144 (fun y nn wx => ∃ S' v' vm', Pr w wx (fun _ => False) O S' v' M S' vm' ∧ Fits S' m (j + 1))
        case first =>
          obtain ⟨L, HL⟩ : ∃ L, Hid (S.last = L) := ⟨_, Lib.hid rfl⟩
          have hL : L ≤ 2000000005000 := by rw [← HL.out]; unfold OutS.last; have := HB.out; omega
          have hLI : (L : Int) ≤ 2000000005000 := by omega
          have hL0 : (0 : Int) ≤ (L : Int) := by omega
          have hwL : IntKind.i64.wrap ((L : Int) + 1) = (L : Int) + 1 := by rw [IntKind.wrap_i64]; omega
          have HLS : Hid (∀ w', MoAt w' M S vm → Calls Tryd.prog 27 #[.pointer (some ⟨M, 0, none⟩)] w' fun e w'' => e = .returned (.int .i64 (L : Int)) ∧ w'' = w'.drew) := Lib.hid fun w' ho => by
            rw [← HL.out]; exact last_mo M S vm w' ho HB.out.1 HB.out.2
          clear hL
          by_cases hq0 : q = 0
          · subst hq0
            clear hq6
            go_wp2_with fail
            refine (HLS.out _ HPA.out.m).mono ?_
            rintro e w' ⟨rfl, rfl⟩
            go_wp2_with fail
            refine (HLS.out _ (HPA.out.m.same (Only.refl _ _).drew)).mono ?_
            rintro e w' ⟨rfl, rfl⟩
            go_wp2_with fail
            refine (text_any _ _).mono ?_
            rintro e w5 ⟨t, ht, rfl, ho5⟩
            have HP5 : Hid (Pr w w5 (· = b) O S v M S vm) := Lib.hid (HPA.out.same (Only.trans (by repeat (first | exact Only.refl _ _ | refine Only.drew ?_)) ho5))
            have HB5 : Hid (Blk w5 b 34 #[.int .u8 o.kind.toNat, .int .i8 o.num, .int .u8 o.time.toNat]) := Lib.hid ((Only.trans (F := Nobody) (by repeat (first | exact Only.refl _ _ | refine Only.drew ?_)) ho5).blk HBC.out (fun x => x))
            clear ho5 ht e0 e1 e2
            have e0 : w5.cell? ⟨b, 0, none⟩ = some (.int .u8 o.kind.toNat) := HB5.out.cell 0
            have e1 : w5.cell? ⟨b, 1, none⟩ = some (.int .i8 o.num) := HB5.out.cell 1
            have hb5 := HB5.out.lt
            go_upto_region 20 with fail
            obtain ⟨Wb, HWb⟩ : ∃ W : World, Hid (W = w5.alloc (.cells #[.int .i64 ((L : Int) + 1), .string t] 36)) := ⟨_, Lib.hid rfl⟩
            obtain ⟨Y, HYN⟩ : ∃ Y, Hid (Y = w5.heap.size) := ⟨_, Lib.hid rfl⟩
            rw [← HWb.out, ← HYN.out]
            have HBY : Hid (Blk Wb Y 36 #[.int .i64 ((L : Int) + 1), .string t]) := Lib.hid (by rw [HWb.out, HYN.out]; exact Blk.new w5 _ _)
            have HBB : Hid (Blk Wb b 34 #[.int .u8 o.kind.toNat, .int .i8 o.num, .int .u8 o.time.toNat]) := Lib.hid (by rw [HWb.out]; exact ((Only.refl Nobody w5).alloc _).blk HB5.out (fun x => x))
            have HPB : Hid (Pr w Wb (· = Y) O S v M S vm) := Lib.hid (by
              have h1 : Pr w Wb (· = b) O S v M S vm := by rw [HWb.out]; exact HP5.out.same ((Only.refl _ _).alloc _)
              refine h1.more HBY.out.lt (fun k hk e => ?_) (fun k hk => .inr hk)
              have h2 : k < w5.heap.size := by
                rcases hk with hk | hk
                · exact HP5.out.o.lt k hk
                · exact HP5.out.m.lt k hk
              rw [e, HYN.out] at h2
              omega)
            clear e0 e1 hb5
            have e0 : Wb.cell? ⟨b, 0, none⟩ = some (.int .u8 o.kind.toNat) := HBB.out.cell 0
            go_upto_if 89 with fail
            go_wp2_with fail
            have HBX : Hid (Blk Wb Y 36 #[.int .i64 (⟨(L : Int) + 1, t⟩ : It).n, .string (⟨(L : Int) + 1, t⟩ : It).t]) := HBY
            obtain ⟨x, HX⟩ : ∃ x : It, Hid (x = ⟨(L : Int) + 1, t⟩) := ⟨_, Lib.hid rfl⟩
            rw [← HX.out] at HBX
            obtain ⟨Wx, HWx⟩ : ∃ W, Hid (W = Wb) := ⟨_, Lib.hid rfl⟩
            rw [← HWx.out] at HBX HPB ⊢
            clear e0
            have y0 : Wx.cell? ⟨Y, 0, none⟩ = some (.int .i64 x.n) := HBX.out.cell 0
            have y1 : Wx.cell? ⟨Y, 1, none⟩ = some (.string x.t) := HBX.out.cell 1
            have HYC : Hid (∀ w', Only (fun k => ¬ k = Y) Wx w' → w'.cell? ⟨Y, 0, none⟩ = some (.int .i64 x.n) ∧ w'.cell? ⟨Y, 1, none⟩ = some (.string x.t)) := Lib.hid fun w' ho => by
              have h1 := ho.blk HBX.out (fun h => h rfl)
              exact ⟨h1.cell 0, h1.cell 1⟩
            have HOW : Hid (Only (fun k => ¬ k = Y) Wx Wx) := Lib.hid (Only.refl _ _)
            have HFP := Lib.hid (fits_put HFI.out x)
            obtain ⟨⟨r, S2⟩, HR⟩ : ∃ z, Hid (putO S x = z) := ⟨_, Lib.hid rfl⟩
            rw [HR.out] at HFP
            have HPU : Hid (∀ w1 Sm vm', Pr w w1 (· = Y) O S v M Sm vm' → Calls Tryd.prog 24 #[.pointer (some ⟨O, 0, none⟩), .agg #[.int .i64 x.n, .string x.t]] w1 fun e w2 => e = .returned (.int .i64 r) ∧ ∃ v2, Pr w w2 (· = Y) O S2 v2 M Sm vm' ∧ Only (fun k => ¬ k = Y) w1 w2) := Lib.hid fun w1 Sm vm' hp => by
              have := put_pr x hp HB.out.1 HB.out.2
              rw [HR.out] at this
              exact this
            have HPM : Hid (∀ w1 So v', Pr w w1 (· = Y) O So v' M S vm → Calls Tryd.prog 28 #[.pointer (some ⟨M, 0, none⟩), .agg #[.int .i64 x.n, .string x.t]] w1 fun e w2 => e = .returned (.int .i64 r) ∧ ∃ v2, Pr w w2 (· = Y) O So v' M S2 v2 ∧ Only (fun k => ¬ k = Y) w1 w2) := Lib.hid fun w1 So v' hp => by
              have := mput_pr x hp HB.out.1 HB.out.2
              rw [HR.out] at this
              exact this
            go_cut [104] from 42 to 144 (fun t wx => t = .bool false ∧ ∃ v' vm', Pr w wx (· = Y) O S2 v' M S2 vm')
            case first =>
              go_region_held3 (fun w' => w'.cell? ⟨Y, 0, none⟩ = some (.int .i64 x.n) ∧ w'.cell? ⟨Y, 1, none⟩ = some (.string x.t)) (first | exact ⟨y0, y1⟩ | exact ⟨hcc.1, hcc.2⟩) (first
                | (go_at_call 24; refine (HPU.out _ _ _ (HPB.out.same (by repeat (first | exact Only.refl _ _ | refine Only.drew ?_)))).mono ?_; rintro e w' ⟨rfl, v2, hp2, hz2⟩; have HPB := Lib.hid hp2; have HOW : Hid (Only (fun k => ¬ k = Y) Wx w') := Lib.hid (Only.trans (by repeat (first | exact HOW.out | refine Only.drew ?_)) hz2); have hcc := HYC.out _ HOW.out; clear hp2 hz2)
                | (go_at_call 28; refine (HPM.out _ _ _ (HPB.out.same (by repeat (first | exact Only.refl _ _ | refine Only.drew ?_)))).mono ?_; rintro e w' ⟨rfl, v2, hp2, hz2⟩; have HPB := Lib.hid hp2; have HOW : Hid (Only (fun k => ¬ k = Y) Wx w') := Lib.hid (Only.trans (by repeat (first | exact HOW.out | refine Only.drew ?_)) hz2); have hcc := HYC.out _ HOW.out; clear hp2 hz2))
              all_goals
                go_wp2_with fail
                go_meet
                exact ⟨rfl, _, _, HPB.out.same (by repeat (first | exact Only.refl _ _ | refine Only.drew ?_))⟩
            case rest =>
              obtain ⟨rfl, v2, vm2, hp⟩ := hcut
              have HPZ := Lib.hid hp
              clear hp y0 y1
              go_wp2_with fail
              go_meet
              exact ⟨S2, v2, vm2, HPZ.out.less (fun _ h => h.elim), HFP.out⟩
          by_cases hq0 : q = 1
          · subst hq0
            clear hq6
            go_wp2_with fail
            refine (HLS.out _ HPA.out.m).mono ?_
            rintro e w' ⟨rfl, rfl⟩
            go_wp2_with fail
            refine (HLS.out _ (HPA.out.m.same (Only.refl _ _).drew)).mono ?_
            rintro e w' ⟨rfl, rfl⟩
            go_wp2_with fail
            refine (text_any _ _).mono ?_
            rintro e w5 ⟨t, ht, rfl, ho5⟩
            have HP5 : Hid (Pr w w5 (· = b) O S v M S vm) := Lib.hid (HPA.out.same (Only.trans (by repeat (first | exact Only.refl _ _ | refine Only.drew ?_)) ho5))
            have HB5 : Hid (Blk w5 b 34 #[.int .u8 o.kind.toNat, .int .i8 o.num, .int .u8 o.time.toNat]) := Lib.hid ((Only.trans (F := Nobody) (by repeat (first | exact Only.refl _ _ | refine Only.drew ?_)) ho5).blk HBC.out (fun x => x))
            clear ho5 ht e0 e1 e2
            have e0 : w5.cell? ⟨b, 0, none⟩ = some (.int .u8 o.kind.toNat) := HB5.out.cell 0
            have e1 : w5.cell? ⟨b, 1, none⟩ = some (.int .i8 o.num) := HB5.out.cell 1
            have hb5 := HB5.out.lt
            go_upto_region 20 with fail
            obtain ⟨Wb, HWb⟩ : ∃ W : World, Hid (W = w5.alloc (.cells #[.int .i64 ((L : Int) + 1), .string t] 36)) := ⟨_, Lib.hid rfl⟩
            obtain ⟨Y, HYN⟩ : ∃ Y, Hid (Y = w5.heap.size) := ⟨_, Lib.hid rfl⟩
            rw [← HWb.out, ← HYN.out]
            have HBY : Hid (Blk Wb Y 36 #[.int .i64 ((L : Int) + 1), .string t]) := Lib.hid (by rw [HWb.out, HYN.out]; exact Blk.new w5 _ _)
            have HBB : Hid (Blk Wb b 34 #[.int .u8 o.kind.toNat, .int .i8 o.num, .int .u8 o.time.toNat]) := Lib.hid (by rw [HWb.out]; exact ((Only.refl Nobody w5).alloc _).blk HB5.out (fun x => x))
            have HPB : Hid (Pr w Wb (· = Y) O S v M S vm) := Lib.hid (by
              have h1 : Pr w Wb (· = b) O S v M S vm := by rw [HWb.out]; exact HP5.out.same ((Only.refl _ _).alloc _)
              refine h1.more HBY.out.lt (fun k hk e => ?_) (fun k hk => .inr hk)
              have h2 : k < w5.heap.size := by
                rcases hk with hk | hk
                · exact HP5.out.o.lt k hk
                · exact HP5.out.m.lt k hk
              rw [e, HYN.out] at h2
              omega)
            clear e0 e1 hb5
            have e0 : Wb.cell? ⟨b, 0, none⟩ = some (.int .u8 o.kind.toNat) := HBB.out.cell 0
            go_upto_if 89 with fail
            go_wp2_with fail
            have HBX : Hid (Blk Wb Y 36 #[.int .i64 (⟨(L : Int) + 1, t⟩ : It).n, .string (⟨(L : Int) + 1, t⟩ : It).t]) := HBY
            obtain ⟨x, HX⟩ : ∃ x : It, Hid (x = ⟨(L : Int) + 1, t⟩) := ⟨_, Lib.hid rfl⟩
            rw [← HX.out] at HBX
            obtain ⟨Wx, HWx⟩ : ∃ W, Hid (W = Wb) := ⟨_, Lib.hid rfl⟩
            rw [← HWx.out] at HBX HPB ⊢
            clear e0
            have y0 : Wx.cell? ⟨Y, 0, none⟩ = some (.int .i64 x.n) := HBX.out.cell 0
            have y1 : Wx.cell? ⟨Y, 1, none⟩ = some (.string x.t) := HBX.out.cell 1
            have HYC : Hid (∀ w', Only (fun k => ¬ k = Y) Wx w' → w'.cell? ⟨Y, 0, none⟩ = some (.int .i64 x.n) ∧ w'.cell? ⟨Y, 1, none⟩ = some (.string x.t)) := Lib.hid fun w' ho => by
              have h1 := ho.blk HBX.out (fun h => h rfl)
              exact ⟨h1.cell 0, h1.cell 1⟩
            have HOW : Hid (Only (fun k => ¬ k = Y) Wx Wx) := Lib.hid (Only.refl _ _)
            have HFP := Lib.hid (fits_put HFI.out x)
            obtain ⟨⟨r, S2⟩, HR⟩ : ∃ z, Hid (putO S x = z) := ⟨_, Lib.hid rfl⟩
            rw [HR.out] at HFP
            have HPU : Hid (∀ w1 Sm vm', Pr w w1 (· = Y) O S v M Sm vm' → Calls Tryd.prog 24 #[.pointer (some ⟨O, 0, none⟩), .agg #[.int .i64 x.n, .string x.t]] w1 fun e w2 => e = .returned (.int .i64 r) ∧ ∃ v2, Pr w w2 (· = Y) O S2 v2 M Sm vm' ∧ Only (fun k => ¬ k = Y) w1 w2) := Lib.hid fun w1 Sm vm' hp => by
              have := put_pr x hp HB.out.1 HB.out.2
              rw [HR.out] at this
              exact this
            have HPM : Hid (∀ w1 So v', Pr w w1 (· = Y) O So v' M S vm → Calls Tryd.prog 28 #[.pointer (some ⟨M, 0, none⟩), .agg #[.int .i64 x.n, .string x.t]] w1 fun e w2 => e = .returned (.int .i64 r) ∧ ∃ v2, Pr w w2 (· = Y) O So v' M S2 v2 ∧ Only (fun k => ¬ k = Y) w1 w2) := Lib.hid fun w1 So v' hp => by
              have := mput_pr x hp HB.out.1 HB.out.2
              rw [HR.out] at this
              exact this
            go_cut [104] from 42 to 144 (fun t wx => t = .bool false ∧ ∃ v' vm', Pr w wx (· = Y) O S2 v' M S2 vm')
            case first =>
              go_region_held3 (fun w' => w'.cell? ⟨Y, 0, none⟩ = some (.int .i64 x.n) ∧ w'.cell? ⟨Y, 1, none⟩ = some (.string x.t)) (first | exact ⟨y0, y1⟩ | exact ⟨hcc.1, hcc.2⟩) (first
                | (go_at_call 24; refine (HPU.out _ _ _ (HPB.out.same (by repeat (first | exact Only.refl _ _ | refine Only.drew ?_)))).mono ?_; rintro e w' ⟨rfl, v2, hp2, hz2⟩; have HPB := Lib.hid hp2; have HOW : Hid (Only (fun k => ¬ k = Y) Wx w') := Lib.hid (Only.trans (by repeat (first | exact HOW.out | refine Only.drew ?_)) hz2); have hcc := HYC.out _ HOW.out; clear hp2 hz2)
                | (go_at_call 28; refine (HPM.out _ _ _ (HPB.out.same (by repeat (first | exact Only.refl _ _ | refine Only.drew ?_)))).mono ?_; rintro e w' ⟨rfl, v2, hp2, hz2⟩; have HPB := Lib.hid hp2; have HOW : Hid (Only (fun k => ¬ k = Y) Wx w') := Lib.hid (Only.trans (by repeat (first | exact HOW.out | refine Only.drew ?_)) hz2); have hcc := HYC.out _ HOW.out; clear hp2 hz2))
              all_goals
                go_wp2_with fail
                go_meet
                exact ⟨rfl, _, _, HPB.out.same (by repeat (first | exact Only.refl _ _ | refine Only.drew ?_))⟩
            case rest =>
              obtain ⟨rfl, v2, vm2, hp⟩ := hcut
              have HPZ := Lib.hid hp
              clear hp y0 y1
              go_wp2_with fail
              go_meet
              exact ⟨S2, v2, vm2, HPZ.out.less (fun _ h => h.elim), HFP.out⟩
          by_cases hq0 : q = 2
          · subst hq0
            clear hq6
            go_wp2_with fail
            refine (HLS.out _ HPA.out.m).mono ?_
            rintro e w' ⟨rfl, rfl⟩
            go_wp2_with fail
            refine (HLS.out _ (HPA.out.m.same (Only.refl _ _).drew)).mono ?_
            rintro e w' ⟨rfl, rfl⟩
            go_wp2_with fail
            refine (text_any _ _).mono ?_
            rintro e w5 ⟨t, ht, rfl, ho5⟩
            have HP5 : Hid (Pr w w5 (· = b) O S v M S vm) := Lib.hid (HPA.out.same (Only.trans (by repeat (first | exact Only.refl _ _ | refine Only.drew ?_)) ho5))
            have HB5 : Hid (Blk w5 b 34 #[.int .u8 o.kind.toNat, .int .i8 o.num, .int .u8 o.time.toNat]) := Lib.hid ((Only.trans (F := Nobody) (by repeat (first | exact Only.refl _ _ | refine Only.drew ?_)) ho5).blk HBC.out (fun x => x))
            clear ho5 ht e0 e1 e2
            have e0 : w5.cell? ⟨b, 0, none⟩ = some (.int .u8 o.kind.toNat) := HB5.out.cell 0
            have e1 : w5.cell? ⟨b, 1, none⟩ = some (.int .i8 o.num) := HB5.out.cell 1
            have hb5 := HB5.out.lt
            go_upto_region 20 with fail
            obtain ⟨Wb, HWb⟩ : ∃ W : World, Hid (W = w5.alloc (.cells #[.int .i64 ((L : Int) + 1), .string t] 36)) := ⟨_, Lib.hid rfl⟩
            obtain ⟨Y, HYN⟩ : ∃ Y, Hid (Y = w5.heap.size) := ⟨_, Lib.hid rfl⟩
            rw [← HWb.out, ← HYN.out]
            have HBY : Hid (Blk Wb Y 36 #[.int .i64 ((L : Int) + 1), .string t]) := Lib.hid (by rw [HWb.out, HYN.out]; exact Blk.new w5 _ _)
            have HBB : Hid (Blk Wb b 34 #[.int .u8 o.kind.toNat, .int .i8 o.num, .int .u8 o.time.toNat]) := Lib.hid (by rw [HWb.out]; exact ((Only.refl Nobody w5).alloc _).blk HB5.out (fun x => x))
            have HPB : Hid (Pr w Wb (· = Y) O S v M S vm) := Lib.hid (by
              have h1 : Pr w Wb (· = b) O S v M S vm := by rw [HWb.out]; exact HP5.out.same ((Only.refl _ _).alloc _)
              refine h1.more HBY.out.lt (fun k hk e => ?_) (fun k hk => .inr hk)
              have h2 : k < w5.heap.size := by
                rcases hk with hk | hk
                · exact HP5.out.o.lt k hk
                · exact HP5.out.m.lt k hk
              rw [e, HYN.out] at h2
              omega)
            clear e0 e1 hb5
            have e0 : Wb.cell? ⟨b, 0, none⟩ = some (.int .u8 o.kind.toNat) := HBB.out.cell 0
            go_upto_if 89 with fail
            obtain ⟨r4, hr4⟩ : ∃ r4, o.num.tmod 4 = r4 := ⟨_, rfl⟩
            have hr4b : -4 < r4 ∧ r4 < 4 := by
              have h1 := Int.tmod_lt_of_pos o.num (show (0 : Int) < 4 by omega)
              have h2 := Int.lt_tmod_of_pos o.num (show (0 : Int) < 4 by omega)
              omega
            obtain ⟨hr41, hr42⟩ := hr4b
            have hwn : IntKind.i64.wrap o.num = o.num := by have := o.lo; rw [IntKind.wrap_i64]; omega
            have hw4 : IntKind.i64.wrap ((L : Int) + r4) = (L : Int) + r4 := by rw [IntKind.wrap_i64]; omega
            have e1 : Wb.cell? ⟨b, 1, none⟩ = some (.int .i8 o.num) := HBB.out.cell 1
            have hbY : b ≠ Y := by
              intro e
              have h1 := HB5.out.lt
              have h2 := HYN.out
              omega
            have HEB : Hid (∀ w', Only (· = Y) Wb w' → w'.cell? ⟨b, 1, none⟩ = some (.int .i8 o.num)) := Lib.hid fun w' ho => (ho.blk HBB.out hbY).cell 1
            have y0 : Wb.cell? ⟨Y, 0, none⟩ = some (.int .i64 ((L : Int) + 1)) := HBY.out.cell 0
            have g0 : Wb.frozen? ⟨Y, 0, none⟩ = false := HBY.out.frozen 0
            go_cut [] from 42 to 144 (fun wx => Blk wx Y 36 #[.int .i64 ((L : Int) + r4), .string t] ∧ Only (· = Y) Wb wx)
            case first =>
              go_upto_region 21 with fail
              go_region_held3 (fun w' => w'.cell? ⟨b, 1, none⟩ = some (.int .i8 o.num)) (exact HEB.out _ (by repeat (first | exact Only.refl _ _ | refine Only.drew ?_ | refine Only.setAt ?_ _))) (first
                | (go_at_call 27; refine (HLS.out _ (HPB.out.m.same (by repeat (first | exact Only.refl _ _ | refine Only.drew ?_)))).mono ?_; rintro e w' ⟨rfl, rfl⟩))
              all_goals
                go_wp2_with fail
                go_meet
                refine ⟨?_, (by repeat (first | exact Only.refl _ _ | refine Only.drew ?_ | refine Only.setAt ?_ _))⟩
                first
                | exact HBY.out.set_ 0 (.int .i64 ((L : Int) + r4))
                | exact (Only.refl Nobody _).drew.blk (HBY.out.set_ 0 (.int .i64 ((L : Int) + r4))) (fun x => x)
            case rest =>
            obtain ⟨hby, hoY⟩ := hcut
            have HBX : Hid (Blk wc Y 36 #[.int .i64 (⟨(L : Int) + r4, t⟩ : It).n, .string (⟨(L : Int) + r4, t⟩ : It).t]) := Lib.hid hby
            obtain ⟨x, HX⟩ : ∃ x : It, Hid (x = ⟨(L : Int) + r4, t⟩) := ⟨_, Lib.hid rfl⟩
            rw [← HX.out] at HBX
            have HPC : Hid (Pr w wc (· = Y) O S v M S vm) := Lib.hid (HPB.out.off (fun k e => by rw [e, HYN.out]; exact HP5.out.only.size) hoY)
            obtain ⟨Wx, HWx⟩ : ∃ W, Hid (W = wc) := ⟨_, Lib.hid rfl⟩
            rw [← HWx.out] at HBX HPC ⊢
            have HPB := HPC
            clear e0 e1 hby hoY y0 g0
            go_upto_region 22 with fail
            have y0 : Wx.cell? ⟨Y, 0, none⟩ = some (.int .i64 x.n) := HBX.out.cell 0
            have y1 : Wx.cell? ⟨Y, 1, none⟩ = some (.string x.t) := HBX.out.cell 1
            have HYC : Hid (∀ w', Only (fun k => ¬ k = Y) Wx w' → w'.cell? ⟨Y, 0, none⟩ = some (.int .i64 x.n) ∧ w'.cell? ⟨Y, 1, none⟩ = some (.string x.t)) := Lib.hid fun w' ho => by
              have h1 := ho.blk HBX.out (fun h => h rfl)
              exact ⟨h1.cell 0, h1.cell 1⟩
            have HOW : Hid (Only (fun k => ¬ k = Y) Wx Wx) := Lib.hid (Only.refl _ _)
            have HFP := Lib.hid (fits_put HFI.out x)
            obtain ⟨⟨r, S2⟩, HR⟩ : ∃ z, Hid (putO S x = z) := ⟨_, Lib.hid rfl⟩
            rw [HR.out] at HFP
            have HPU : Hid (∀ w1 Sm vm', Pr w w1 (· = Y) O S v M Sm vm' → Calls Tryd.prog 24 #[.pointer (some ⟨O, 0, none⟩), .agg #[.int .i64 x.n, .string x.t]] w1 fun e w2 => e = .returned (.int .i64 r) ∧ ∃ v2, Pr w w2 (· = Y) O S2 v2 M Sm vm' ∧ Only (fun k => ¬ k = Y) w1 w2) := Lib.hid fun w1 Sm vm' hp => by
              have := put_pr x hp HB.out.1 HB.out.2
              rw [HR.out] at this
              exact this
            have HPM : Hid (∀ w1 So v', Pr w w1 (· = Y) O So v' M S vm → Calls Tryd.prog 28 #[.pointer (some ⟨M, 0, none⟩), .agg #[.int .i64 x.n, .string x.t]] w1 fun e w2 => e = .returned (.int .i64 r) ∧ ∃ v2, Pr w w2 (· = Y) O So v' M S2 v2 ∧ Only (fun k => ¬ k = Y) w1 w2) := Lib.hid fun w1 So v' hp => by
              have := mput_pr x hp HB.out.1 HB.out.2
              rw [HR.out] at this
              exact this
            go_cut [104] from 42 to 144 (fun t wx => t = .bool false ∧ ∃ v' vm', Pr w wx (· = Y) O S2 v' M S2 vm')
            case first =>
              go_region_held3 (fun w' => w'.cell? ⟨Y, 0, none⟩ = some (.int .i64 x.n) ∧ w'.cell? ⟨Y, 1, none⟩ = some (.string x.t)) (first | exact ⟨y0, y1⟩ | exact ⟨hcc.1, hcc.2⟩) (first
                | (go_at_call 24; refine (HPU.out _ _ _ (HPB.out.same (by repeat (first | exact Only.refl _ _ | refine Only.drew ?_)))).mono ?_; rintro e w' ⟨rfl, v2, hp2, hz2⟩; have HPB := Lib.hid hp2; have HOW : Hid (Only (fun k => ¬ k = Y) Wx w') := Lib.hid (Only.trans (by repeat (first | exact HOW.out | refine Only.drew ?_)) hz2); have hcc := HYC.out _ HOW.out; clear hp2 hz2)
                | (go_at_call 28; refine (HPM.out _ _ _ (HPB.out.same (by repeat (first | exact Only.refl _ _ | refine Only.drew ?_)))).mono ?_; rintro e w' ⟨rfl, v2, hp2, hz2⟩; have HPB := Lib.hid hp2; have HOW : Hid (Only (fun k => ¬ k = Y) Wx w') := Lib.hid (Only.trans (by repeat (first | exact HOW.out | refine Only.drew ?_)) hz2); have hcc := HYC.out _ HOW.out; clear hp2 hz2))
              all_goals
                go_wp2_with fail
                go_meet
                exact ⟨rfl, _, _, HPB.out.same (by repeat (first | exact Only.refl _ _ | refine Only.drew ?_))⟩
            case rest =>
              obtain ⟨rfl, v2, vm2, hp⟩ := hcut
              have HPZ := Lib.hid hp
              clear hp y0 y1
              go_wp2_with fail
              go_meet
              exact ⟨S2, v2, vm2, HPZ.out.less (fun _ h => h.elim), HFP.out⟩
          by_cases hq0 : q = 3
          · subst hq0
            clear hq6
            obtain ⟨r6, hr6⟩ : ∃ r6, o.num.tmod 6 = r6 := ⟨_, rfl⟩
            have hr6b : -6 < r6 ∧ r6 < 6 := by
              have h1 := Int.tmod_lt_of_pos o.num (show (0 : Int) < 6 by omega)
              have h2 := Int.lt_tmod_of_pos o.num (show (0 : Int) < 6 by omega)
              omega
            obtain ⟨hr61, hr62⟩ := hr6b
            obtain ⟨ac, HAC⟩ : ∃ ac, Hid (S.acked = ac) := ⟨_, Lib.hid rfl⟩
            have hacI : (ac : Int) ≤ 2000000000000 := by have := HB.out.1; have := HAC.out; omega
            have hac0 : (0 : Int) ≤ (ac : Int) := by omega
            have hwn : IntKind.i64.wrap o.num = o.num := by have := o.lo; rw [IntKind.wrap_i64]; omega
            have hw6 : IntKind.i64.wrap ((ac : Int) + r6) = (ac : Int) + r6 := by rw [IntKind.wrap_i64]; omega
            have HKM : Hid (∀ w', Only Nobody Wa w' → w'.cell? ⟨M, 0, none⟩ = some (.int .i64 (ac : Int)) ∧ w'.cell? ⟨b, 1, none⟩ = some (.int .i8 o.num)) := Lib.hid fun w' ho => by
              have h1 := (HPA.out.m.same ho).blk.cell 0
              rw [HAC.out] at h1
              exact ⟨h1, (ho.blk HBC.out (fun x => x)).cell 1⟩
            have k0 := (HKM.out _ (Only.refl _ _)).1
            have HFA := Lib.hid (fits_ack HFI.out ((ac : Int) + r6))
            obtain ⟨⟨r, S2⟩, HR⟩ : ∃ z, Hid (ackO S ((ac : Int) + r6) = z) := ⟨_, Lib.hid rfl⟩
            rw [HR.out] at HFA
            have HPU : Hid (∀ w1 Sm vm', Pr w w1 (· = b) O S v M Sm vm' → Calls Tryd.prog 26 #[.pointer (some ⟨O, 0, none⟩), .int .i64 ((ac : Int) + r6)] w1 fun e w2 => e = .returned (.int .i64 r) ∧ ∃ v2, Pr w w2 (· = b) O S2 v2 M Sm vm' ∧ Only (fun k => ¬ k = b) w1 w2) := Lib.hid fun w1 Sm vm' hp => by
              have := ack_pr ((ac : Int) + r6) hp HB.out.1 HB.out.2
              rw [HR.out] at this
              exact this
            have HPM : Hid (∀ w1 So v', Pr w w1 (· = b) O So v' M S vm → Calls Tryd.prog 29 #[.pointer (some ⟨M, 0, none⟩), .int .i64 ((ac : Int) + r6)] w1 fun e w2 => e = .returned (.int .i64 r) ∧ ∃ v2, Pr w w2 (· = b) O So v' M S2 v2 ∧ Only (fun k => ¬ k = b) w1 w2) := Lib.hid fun w1 So v' hp => by
              have := mack_pr ((ac : Int) + r6) hp HB.out.1 HB.out.2
              rw [HR.out] at this
              exact this
            go_upto_region 25 with fail
            go_cut [11] from 42 to 144 (fun t wx => t = .int .i64 ((ac : Int) + r6) ∧ Only Nobody Wa wx)
            case first =>
              go_region_held3 (fun w' => w'.cell? ⟨M, 0, none⟩ = some (.int .i64 (ac : Int)) ∧ w'.cell? ⟨b, 1, none⟩ = some (.int .i8 o.num)) (exact HKM.out _ (by repeat (first | exact Only.refl _ _ | refine Only.drew ?_))) (fail)
              all_goals
                go_wp2_with fail
                go_meet
                exact ⟨rfl, (by repeat (first | exact Only.refl _ _ | refine Only.drew ?_))⟩
            case rest =>
              obtain ⟨rfl, hoc⟩ := hcut
              have HPC := Lib.hid (HPA.out.same hoc)
              clear hoc e0 e1 e2 k0
              go_wp2_with fail
              refine (HPU.out _ _ _ HPC.out).mono ?_
              rintro e w3 ⟨rfl, v3, hp3, _⟩
              have HP3 := Lib.hid hp3
              clear hp3
              go_wp2_with fail
              refine (HPM.out _ _ _ HP3.out).mono ?_
              rintro e w4 ⟨rfl, v4, hp4, _⟩
              have HP4 := Lib.hid hp4
              clear hp4
              go_wp2_with fail
              go_meet
              exact ⟨S2, v3, v4, HP4.out.less (fun _ h => h.elim), HFA.out⟩
          by_cases hq0 : q = 4
          · subst hq0
            clear hq6
            obtain ⟨iv, hr20⟩ : ∃ iv, o.num.tmod 20 = iv := ⟨_, rfl⟩
            have hivb : -1000000 ≤ iv ∧ iv ≤ 1000000 := by
              have h1 := Int.tmod_lt_of_pos o.num (show (0 : Int) < 20 by omega)
              have h2 := Int.lt_tmod_of_pos o.num (show (0 : Int) < 20 by omega)
              omega
            have HIV := Lib.hid hivb
            obtain ⟨tm, htm⟩ : ∃ tm : Int, (o.time.toNat : Int) = tm := ⟨_, rfl⟩
            have htm0 : 0 ≤ tm := by omega
            have htm1 : tm ≤ 255 := by have := o.time.toNat_lt; omega
            have HTM : Hid (-1000000 ≤ tm ∧ tm ≤ 1000000) := Lib.hid ⟨by omega, by omega⟩
            have hwn : IntKind.i64.wrap o.num = o.num := by have := o.lo; rw [IntKind.wrap_i64]; omega
            have hwt : IntKind.i64.wrap tm = tm := by rw [IntKind.wrap_i64]; omega
            rw [htm] at HBC e2
            clear htm hivb
            have HKB : Hid (∀ w', Only (fun k => ¬ k = b) Wa w' → w'.cell? ⟨b, 1, none⟩ = some (.int .i8 o.num) ∧ w'.cell? ⟨b, 2, none⟩ = some (.int .u8 tm)) := Lib.hid fun w' ho => by
              have h1 := ho.blk HBC.out (fun h => h rfl)
              exact ⟨h1.cell 1, h1.cell 2⟩
            have HOW : Hid (Only (fun k => ¬ k = b) Wa Wa) := Lib.hid (Only.refl _ _)
            have HFD := Lib.hid (fits_due HFI.out tm iv)
            obtain ⟨l, HLL⟩ : ∃ l, Hid (dueR S tm iv = l) := ⟨_, Lib.hid rfl⟩
            have HL64 : Hid (l.length ≤ 5000) := Lib.hid (by rw [← HLL.out]; have := dueR_le S tm iv; omega)
            obtain ⟨S2, HS2⟩ : ∃ S2, Hid (dueS S tm iv = S2) := ⟨_, Lib.hid rfl⟩
            rw [HS2.out] at HFD
            have HPU : Hid (∀ w1 Z Sm vm', Pr w w1 Z O S v M Sm vm' → Calls Tryd.prog 25 #[.pointer (some ⟨O, 0, none⟩), .int .i64 tm, .int .i64 iv] w1 fun e w2 => ∃ A c, e = .returned (.slice A l.length c) ∧ w2.ownsRow w1.heap.size 36 2 (.slice A l.length c) l.length (itsC l) ∧ Pr w w2 (fun k => Z k ∨ (Value.slice A l.length c).ownBlock = some k) O S2 v M Sm vm' ∧ Only (fun k => ¬ Z k) w1 w2) := Lib.hid fun w1 Z Sm vm' hp => by
              have := due_pr2 tm iv HTM.out HIV.out hp HB.out.2
              rw [HLL.out, HS2.out] at this
              exact this.mono fun e w2 ⟨vo, h1, h2, h3, h4⟩ => by
                obtain ⟨A, c, rfl⟩ := own_form h2
                exact ⟨A, c, h1, h2, h3, h4⟩
            have HPM : Hid (∀ w1 Z So v', Pr w w1 Z O So v' M S vm → Calls Tryd.prog 31 #[.pointer (some ⟨M, 0, none⟩), .int .i64 tm, .int .i64 iv] w1 fun e w2 => ∃ A c, e = .returned (.slice A l.length c) ∧ w2.ownsRow w1.heap.size 36 2 (.slice A l.length c) l.length (itsC l) ∧ Pr w w2 (fun k => Z k ∨ (Value.slice A l.length c).ownBlock = some k) O So v' M S2 vm ∧ Only (fun k => ¬ Z k) w1 w2) := Lib.hid fun w1 Z So v' hp => by
              have := mdue_pr2 tm iv HTM.out HIV.out hp HB.out.2
              rw [HLL.out, HS2.out] at this
              exact this.mono fun e w2 ⟨vo, h1, h2, h3, h4⟩ => by
                obtain ⟨A, c, rfl⟩ := own_form h2
                exact ⟨A, c, h1, h2, h3, h4⟩
            have HPB := HPA
            go_upto_region 14 with fail
            go_cut [74] from 42 to 144 (fun t wx => t = .bool false ∧ ∃ Z, Pr w wx Z O S2 v M S2 vm)
            case first =>
              go_region_held3 (fun w' => w'.cell? ⟨b, 1, none⟩ = some (.int .i8 o.num) ∧ w'.cell? ⟨b, 2, none⟩ = some (.int .u8 tm)) (first | exact ⟨e1, e2⟩ | exact ⟨hcc.1, hcc.2⟩) (first
                | (go_at_call 25; refine (HPU.out _ _ _ _ (HPB.out.same (by repeat (first | exact Only.refl _ _ | refine Only.drew ?_)))).mono ?_; rintro e w' ⟨A1, c1, rfl, hrow, hp2, hz2⟩; (first | have HRM := Lib.hid (hz2.row (Only.row (F := Nobody) (by repeat (first | exact Only.refl _ _ | refine Only.drew ?_)) HRM.out (fun _ _ x => x)) (fun g e h => h (.inr e))) | skip); have HRO := Lib.hid hrow; have HPB := Lib.hid hp2; have HOW : Hid (Only (fun k => ¬ k = b) Wa w') := Lib.hid (Only.trans (by repeat (first | exact HOW.out | refine Only.drew ?_)) (hz2.mono (fun k h1 h2 => h1 (by first | exact h2 | exact .inl h2)))); have hcc := HKB.out _ HOW.out; clear hp2 hz2 hrow)
                | (go_at_call 31; refine (HPM.out _ _ _ _ (HPB.out.same (by repeat (first | exact Only.refl _ _ | refine Only.drew ?_)))).mono ?_; rintro e w' ⟨A2, c2, rfl, hrow, hp2, hz2⟩; (first | have HRO := Lib.hid (hz2.row (Only.row (F := Nobody) (by repeat (first | exact Only.refl _ _ | refine Only.drew ?_)) HRO.out (fun _ _ x => x)) (fun g e h => h (.inr e))) | skip); have HRM := Lib.hid hrow; have HPB := Lib.hid hp2; have HOW : Hid (Only (fun k => ¬ k = b) Wa w') := Lib.hid (Only.trans (by repeat (first | exact HOW.out | refine Only.drew ?_)) (hz2.mono (fun k h1 h2 => h1 (by first | exact h2 | exact .inl h2)))); have hcc := HKB.out _ HOW.out; clear hp2 hz2 hrow)
                | (go_at_call 30; refine (sameItems_yes l _ _ _ _ _ (Only.row (F := Nobody) (by repeat (first | exact Only.refl _ _ | refine Only.drew ?_)) HRO.out (fun _ _ x => x)) (Only.row (F := Nobody) (by repeat (first | exact Only.refl _ _ | refine Only.drew ?_)) HRM.out (fun _ _ x => x)) HL64.out).mono ?_; rintro e w' ⟨rfl, ho'⟩; have HPB := Lib.hid (HPB.out.same (Only.trans (by repeat (first | exact Only.refl _ _ | refine Only.drew ?_)) ho')); have HOW : Hid (Only (fun k => ¬ k = b) Wa w') := Lib.hid (Only.trans (by repeat (first | exact HOW.out | refine Only.drew ?_)) (ho'.mono (fun _ x => x.elim))); have hcc := HKB.out _ HOW.out; clear ho'))
              all_goals
                go_wp2_with fail
                go_meet
                exact ⟨rfl, _, HPB.out.same (by repeat (first | exact Only.refl _ _ | refine Only.drew ?_))⟩
            case rest =>
              obtain ⟨rfl, Z2, hp⟩ := hcut
              have HPZ := Lib.hid hp
              clear hp e0 e1 e2
              go_wp2_with fail
              go_meet
              exact ⟨S2, v, vm, HPZ.out.less (fun _ h => h.elim), HFD.out⟩
          · obtain rfl : q = 5 := by omega
            clear hq6
            obtain ⟨iv, hr20⟩ : ∃ iv, o.num.tmod 20 = iv := ⟨_, rfl⟩
            have hivb : -1000000 ≤ iv ∧ iv ≤ 1000000 := by
              have h1 := Int.tmod_lt_of_pos o.num (show (0 : Int) < 20 by omega)
              have h2 := Int.lt_tmod_of_pos o.num (show (0 : Int) < 20 by omega)
              omega
            have HIV := Lib.hid hivb
            obtain ⟨tm, htm⟩ : ∃ tm : Int, (o.time.toNat : Int) = tm := ⟨_, rfl⟩
            have htm0 : 0 ≤ tm := by omega
            have htm1 : tm ≤ 255 := by have := o.time.toNat_lt; omega
            have HTM : Hid (-1000000 ≤ tm ∧ tm ≤ 1000000) := Lib.hid ⟨by omega, by omega⟩
            have hwn : IntKind.i64.wrap o.num = o.num := by have := o.lo; rw [IntKind.wrap_i64]; omega
            have hwt : IntKind.i64.wrap tm = tm := by rw [IntKind.wrap_i64]; omega
            rw [htm] at HBC e2
            clear htm hivb
            have HKB : Hid (∀ w', Only (fun k => ¬ k = b) Wa w' → w'.cell? ⟨b, 1, none⟩ = some (.int .i8 o.num) ∧ w'.cell? ⟨b, 2, none⟩ = some (.int .u8 tm)) := Lib.hid fun w' ho => by
              have h1 := ho.blk HBC.out (fun h => h rfl)
              exact ⟨h1.cell 1, h1.cell 2⟩
            have HOW : Hid (Only (fun k => ¬ k = b) Wa Wa) := Lib.hid (Only.refl _ _)
            have HFD := Lib.hid (fits_due HFI.out tm iv)
            obtain ⟨l, HLL⟩ : ∃ l, Hid (dueR S tm iv = l) := ⟨_, Lib.hid rfl⟩
            have HL64 : Hid (l.length ≤ 5000) := Lib.hid (by rw [← HLL.out]; have := dueR_le S tm iv; omega)
            obtain ⟨S2, HS2⟩ : ∃ S2, Hid (dueS S tm iv = S2) := ⟨_, Lib.hid rfl⟩
            rw [HS2.out] at HFD
            have HPU : Hid (∀ w1 Z Sm vm', Pr w w1 Z O S v M Sm vm' → Calls Tryd.prog 25 #[.pointer (some ⟨O, 0, none⟩), .int .i64 tm, .int .i64 iv] w1 fun e w2 => ∃ A c, e = .returned (.slice A l.length c) ∧ w2.ownsRow w1.heap.size 36 2 (.slice A l.length c) l.length (itsC l) ∧ Pr w w2 (fun k => Z k ∨ (Value.slice A l.length c).ownBlock = some k) O S2 v M Sm vm' ∧ Only (fun k => ¬ Z k) w1 w2) := Lib.hid fun w1 Z Sm vm' hp => by
              have := due_pr2 tm iv HTM.out HIV.out hp HB.out.2
              rw [HLL.out, HS2.out] at this
              exact this.mono fun e w2 ⟨vo, h1, h2, h3, h4⟩ => by
                obtain ⟨A, c, rfl⟩ := own_form h2
                exact ⟨A, c, h1, h2, h3, h4⟩
            have HPM : Hid (∀ w1 Z So v', Pr w w1 Z O So v' M S vm → Calls Tryd.prog 31 #[.pointer (some ⟨M, 0, none⟩), .int .i64 tm, .int .i64 iv] w1 fun e w2 => ∃ A c, e = .returned (.slice A l.length c) ∧ w2.ownsRow w1.heap.size 36 2 (.slice A l.length c) l.length (itsC l) ∧ Pr w w2 (fun k => Z k ∨ (Value.slice A l.length c).ownBlock = some k) O So v' M S2 vm ∧ Only (fun k => ¬ Z k) w1 w2) := Lib.hid fun w1 Z So v' hp => by
              have := mdue_pr2 tm iv HTM.out HIV.out hp HB.out.2
              rw [HLL.out, HS2.out] at this
              exact this.mono fun e w2 ⟨vo, h1, h2, h3, h4⟩ => by
                obtain ⟨A, c, rfl⟩ := own_form h2
                exact ⟨A, c, h1, h2, h3, h4⟩
            have HPB := HPA
            go_upto_region 14 with fail
            go_cut [74] from 42 to 144 (fun t wx => t = .bool false ∧ ∃ Z, Pr w wx Z O S2 v M S2 vm)
            case first =>
              go_region_held3 (fun w' => w'.cell? ⟨b, 1, none⟩ = some (.int .i8 o.num) ∧ w'.cell? ⟨b, 2, none⟩ = some (.int .u8 tm)) (first | exact ⟨e1, e2⟩ | exact ⟨hcc.1, hcc.2⟩) (first
                | (go_at_call 25; refine (HPU.out _ _ _ _ (HPB.out.same (by repeat (first | exact Only.refl _ _ | refine Only.drew ?_)))).mono ?_; rintro e w' ⟨A1, c1, rfl, hrow, hp2, hz2⟩; (first | have HRM := Lib.hid (hz2.row (Only.row (F := Nobody) (by repeat (first | exact Only.refl _ _ | refine Only.drew ?_)) HRM.out (fun _ _ x => x)) (fun g e h => h (.inr e))) | skip); have HRO := Lib.hid hrow; have HPB := Lib.hid hp2; have HOW : Hid (Only (fun k => ¬ k = b) Wa w') := Lib.hid (Only.trans (by repeat (first | exact HOW.out | refine Only.drew ?_)) (hz2.mono (fun k h1 h2 => h1 (by first | exact h2 | exact .inl h2)))); have hcc := HKB.out _ HOW.out; clear hp2 hz2 hrow)
                | (go_at_call 31; refine (HPM.out _ _ _ _ (HPB.out.same (by repeat (first | exact Only.refl _ _ | refine Only.drew ?_)))).mono ?_; rintro e w' ⟨A2, c2, rfl, hrow, hp2, hz2⟩; (first | have HRO := Lib.hid (hz2.row (Only.row (F := Nobody) (by repeat (first | exact Only.refl _ _ | refine Only.drew ?_)) HRO.out (fun _ _ x => x)) (fun g e h => h (.inr e))) | skip); have HRM := Lib.hid hrow; have HPB := Lib.hid hp2; have HOW : Hid (Only (fun k => ¬ k = b) Wa w') := Lib.hid (Only.trans (by repeat (first | exact HOW.out | refine Only.drew ?_)) (hz2.mono (fun k h1 h2 => h1 (by first | exact h2 | exact .inl h2)))); have hcc := HKB.out _ HOW.out; clear hp2 hz2 hrow)
                | (go_at_call 30; refine (sameItems_yes l _ _ _ _ _ (Only.row (F := Nobody) (by repeat (first | exact Only.refl _ _ | refine Only.drew ?_)) HRO.out (fun _ _ x => x)) (Only.row (F := Nobody) (by repeat (first | exact Only.refl _ _ | refine Only.drew ?_)) HRM.out (fun _ _ x => x)) HL64.out).mono ?_; rintro e w' ⟨rfl, ho'⟩; have HPB := Lib.hid (HPB.out.same (Only.trans (by repeat (first | exact Only.refl _ _ | refine Only.drew ?_)) ho')); have HOW : Hid (Only (fun k => ¬ k = b) Wa w') := Lib.hid (Only.trans (by repeat (first | exact HOW.out | refine Only.drew ?_)) (ho'.mono (fun _ x => x.elim))); have hcc := HKB.out _ HOW.out; clear ho'))
              all_goals
                go_wp2_with fail
                go_meet
                exact ⟨rfl, _, HPB.out.same (by repeat (first | exact Only.refl _ _ | refine Only.drew ?_))⟩
            case rest =>
              obtain ⟨rfl, Z2, hp⟩ := hcut
              have HPZ := Lib.hid hp
              clear hp e0 e1 e2
              go_wp2_with fail
              go_meet
              exact ⟨S2, v, vm, HPZ.out.less (fun _ h => h.elim), HFD.out⟩
        case rest =>
          obtain ⟨S', v', vm', hP, hF⟩ := hcut
          have HP' := Lib.hid hP
          have HF' := Lib.hid hF
          clear hP hF e0 e1 e2
          obtain ⟨ac, HAC⟩ : ∃ ac, Hid (S'.acked = ac) := ⟨_, Lib.hid rfl⟩
          obtain ⟨L, HL⟩ : ∃ L, Hid (S'.last = L) := ⟨_, Lib.hid rfl⟩
          obtain ⟨l, HLL⟩ : ∃ l, Hid (S'.l.map (·.x) = l) := ⟨_, Lib.hid rfl⟩
          have HB' := Lib.hid (show S'.acked ≤ 2000000000000 ∧ S'.l.length ≤ 5000 from by have := HF'.out.1; have := HF'.out.2; omega)
          have HLN : Hid (S'.l.length = l.length) := Lib.hid (by rw [← HLL.out, List.length_map])
          have HL50 : Hid (l.length ≤ 5000) := Lib.hid (by rw [← HLN.out]; exact HB'.out.2)
          have HKM : Hid (∀ w', Only Nobody wc w' → w'.cell? ⟨M, 0, none⟩ = some (.int .i64 (ac : Int))) := Lib.hid fun w' ho => by
            have h1 := (HP'.out.m.same ho).blk.cell 0
            rw [HAC.out] at h1
            exact h1
          have k0 := HKM.out _ (Only.refl _ _)
          have HQA : Hid (∀ w', OutAt w' O S' v' → Calls Tryd.prog 32 #[.pointer (some ⟨O, 0, none⟩)] w' fun e w'' => e = .returned (.int .i64 (ac : Int)) ∧ w' = w'') := Lib.hid fun w' ho => by rw [← HAC.out]; exact acked_ox O S' v' w' ho
          have HQL : Hid (∀ w', OutAt w' O S' v' → Calls Tryd.prog 33 #[.pointer (some ⟨O, 0, none⟩)] w' fun e w'' => e = .returned (.int .i64 (L : Int)) ∧ w'' = w'.drew) := Lib.hid fun w' ho => by rw [← HL.out]; exact last_ox O S' v' w' ho HB'.out.1 HB'.out.2
          have HQM : Hid (∀ w', MoAt w' M S' vm' → Calls Tryd.prog 27 #[.pointer (some ⟨M, 0, none⟩)] w' fun e w'' => e = .returned (.int .i64 (L : Int)) ∧ w'' = w'.drew) := Lib.hid fun w' ho => by rw [← HL.out]; exact last_mo M S' vm' w' ho HB'.out.1 HB'.out.2
          have HQP : Hid (∀ w', OutAt w' O S' v' → Calls Tryd.prog 34 #[.pointer (some ⟨O, 0, none⟩)] w' fun e w'' => ∃ A c, e = .returned (.slice A l.length c) ∧ w''.ownsRow w'.heap.size 36 2 (.slice A l.length c) l.length (itsC l) ∧ Only Nobody w' w'') := Lib.hid fun w' ho => (pending_ox O S' v' w' ho HB'.out.2).mono fun e w2 ⟨vo, h1, h2, h3⟩ => by
            rw [HLL.out, HLN.out] at h2
            obtain ⟨A, c, rfl⟩ := own_form h2
            exact ⟨A, c, h1, h2, h3⟩
          have HQN : Hid (∀ w', MoAt w' M S' vm' → Calls Tryd.prog 35 #[.pointer (some ⟨M, 0, none⟩)] w' fun e w'' => ∃ A c, e = .returned (.slice A l.length c) ∧ w''.ownsRow w'.heap.size 36 2 (.slice A l.length c) l.length (itsC l) ∧ Only Nobody w' w'') := Lib.hid fun w' ho => (pending_mo M S' vm' w' ho HB'.out.2).mono fun e w2 ⟨vo, h1, h2, h3⟩ => by
            rw [HLL.out, HLN.out] at h2
            obtain ⟨A, c, rfl⟩ := own_form h2
            exact ⟨A, c, h1, h2, h3⟩
          have HOW : Hid (Only Nobody wc wc) := Lib.hid (Only.refl _ _)
          clear hq hq6
          go_upto_region 28 with fail
          go_cut [144] from 42 to 144 (fun t wx => t = .bool false ∧ Only Nobody wc wx)
          case first =>
            go_region_held3 (fun w' => w'.cell? ⟨M, 0, none⟩ = some (.int .i64 (ac : Int))) (exact HKM.out _ (by repeat (first | exact HOW.out | exact Only.refl _ _ | refine Only.drew ?_))) (first
              | (go_at_call 32; refine (HQA.out _ (HP'.out.o.same (by repeat (first | exact HOW.out | refine Only.drew ?_)))).mono ?_; rintro e w' ⟨rfl, rfl⟩)
              | (go_at_call 33; refine (HQL.out _ (HP'.out.o.same (by repeat (first | exact HOW.out | refine Only.drew ?_)))).mono ?_; rintro e w' ⟨rfl, rfl⟩)
              | (go_at_call 27; refine (HQM.out _ (HP'.out.m.same (by repeat (first | exact HOW.out | refine Only.drew ?_)))).mono ?_; rintro e w' ⟨rfl, rfl⟩)
              | (go_at_call 34; refine (HQP.out _ (HP'.out.o.same (by repeat (first | exact HOW.out | refine Only.drew ?_)))).mono ?_; rintro e w' ⟨A1, c1, rfl, hrow, ho'⟩; (first | have HRM := Lib.hid (Only.row (F := Nobody) (Only.trans (by repeat (first | exact Only.refl _ _ | refine Only.drew ?_)) ho') HRM.out (fun _ _ x => x)) | skip); have HRO := Lib.hid hrow; have HOW : Hid (Only Nobody wc w') := Lib.hid (Only.trans (by repeat (first | exact HOW.out | refine Only.drew ?_)) ho'); clear ho' hrow)
              | (go_at_call 35; refine (HQN.out _ (HP'.out.m.same (by repeat (first | exact HOW.out | refine Only.drew ?_)))).mono ?_; rintro e w' ⟨A2, c2, rfl, hrow, ho'⟩; (first | have HRO := Lib.hid (Only.row (F := Nobody) (Only.trans (by repeat (first | exact Only.refl _ _ | refine Only.drew ?_)) ho') HRO.out (fun _ _ x => x)) | skip); have HRM := Lib.hid hrow; have HOW : Hid (Only Nobody wc w') := Lib.hid (Only.trans (by repeat (first | exact HOW.out | refine Only.drew ?_)) ho'); clear ho' hrow)
              | (go_at_call 30; refine (sameItems_yes l _ _ _ _ _ (Only.row (F := Nobody) (by repeat (first | exact Only.refl _ _ | refine Only.drew ?_)) HRO.out (fun _ _ x => x)) (Only.row (F := Nobody) (by repeat (first | exact Only.refl _ _ | refine Only.drew ?_)) HRM.out (fun _ _ x => x)) HL50.out).mono ?_; rintro e w' ⟨rfl, ho'⟩; have HOW : Hid (Only Nobody wc w') := Lib.hid (Only.trans (by repeat (first | exact HOW.out | refine Only.drew ?_)) ho'); clear ho'))
            all_goals
              go_wp2_with fail
              go_meet
              exact ⟨rfl, by repeat (first | exact HOW.out | refine Only.drew ?_)⟩
          case rest =>
            obtain ⟨rfl, hoc⟩ := hcut
            have HPE := Lib.hid (HP'.out.same hoc)
            clear hoc k0
            go_wp2_with fail
            go_roundw
            case rel =>
              first
              | exact ⟨j + 1, S', v', vm', by go_num, by omega, HPE, HF'⟩
              | ((repeat apply Exists.intro); exact ⟨⟨j + 1, S', v', vm', by go_num, by omega, HPE, HF'⟩, rfl⟩)
            case measure => simp [intOf]; omega
      · obtain rfl : j = n := by omega
        go_wp2_with fail
        go_ret
        exact ⟨rfl, HP.out.only⟩
  · have HBD := Lib.hid (newOutbox_bad a hr)
    by_cases h0 : a < 0
    · have hd0 : decide (a < 0) = true := by simpa using h0
      go_enter Tryd.func6, Tryd.ntmps6
      go_wp2_with fail
      refine (known_any _ HT.out).mono ?_
      rintro e w1 ⟨rfl, ho1⟩
      have HO1 := Lib.hid ho1
      clear ho1
      go_wp2_with fail
      refine (HBD.out _).mono ?_
      rintro e w2 ⟨rfl, rfl⟩
      go_wp2_with fail
      go_ret
      exact ⟨rfl, HO1.out⟩
    · have h1 : 1099511627776 < a := by omega
      have hd0 : decide (a < 0) = false := by simpa using h0
      clear hr
      go_enter Tryd.func6, Tryd.ntmps6
      go_wp2_with fail
      refine (known_any _ HT.out).mono ?_
      rintro e w1 ⟨rfl, ho1⟩
      have HO1 := Lib.hid ho1
      clear ho1
      go_wp2_with fail
      refine (HBD.out _).mono ?_
      rintro e w2 ⟨rfl, rfl⟩
      go_wp2_with fail
      go_ret
      exact ⟨rfl, HO1.out⟩
end Go.Proofs.YthmndclmecnpmaaDoor
