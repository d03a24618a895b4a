/- The walk of the law ExchangeInboxes (printed by gen_exin.py). -/
import Derived.Test.YthmndclmecnpmaaDoorExPi
import Derived.Test.YthmndclmecnpmaaDoorOpCells3
import Derived.Deep.CutRange
import Derived.Deep.CutBlock
namespace Go.Proofs.YthmndclmecnpmaaDoor
open Go.RowKit
attribute [local go_sem ↓] Go.wp_at_zero Go.wp_at_succ

theorem only_at {a w : World} {Y i : Nat} (h : Only (fun x => x = Y) a w) (u : Value) : Only (fun x => x = Y) a (w.setCell ⟨Y, i, none⟩ u) := h.setCell (p := ⟨Y, i, none⟩) (.inl rfl) u
set_option maxRecDepth 100000 in
set_option maxHeartbeats 4000000 in
theorem lawIn (a : Int) (ha1 : -9223372036854775808 ≤ a) (ha2 : a ≤ 9223372036854775807) (A : Option Addr) (n c : Nat) (X : List Op3) (w : World) (hX : Given w 3 A n c (opVals X)) (hN : X.length = n) (ht : CalTab w) : Calls Tryd.prog 3 #[.int .i64 a, .slice A n c] w fun e w' => e = .returned (.bool true) ∧ Only Nobody w w' := by
  have HT := Lib.hid ht
  have HXX := Lib.hid hX
  have HXN := Lib.hid hN
  clear ht hX hN
  by_cases h200 : 200 < n
  · have h200I : (200 : Int) < (n : Int) := by omega
    go_enter Tryd.func3, Tryd.ntmps3
    go_wp2_with fail
    refine (known_any _ HT.out).mono ?_
    rintro e w1 ⟨rfl, ho1⟩
    have HO1 := Lib.hid ho1
    have HT1 := Lib.hid (HT.out.same ho1)
    clear ho1
    go_wp2_with fail
    refine (known_any _ HT1.out).mono ?_
    rintro e w2 ⟨rfl, ho2⟩
    have HO2 := Lib.hid (HO1.out.trans ho2)
    clear ho2
    go_wp2_with fail
    go_ret
    exact ⟨rfl, HO2.out⟩
  have h200I : ¬ (200 : Int) < (n : Int) := by omega
  by_cases hr : 0 ≤ a ∧ a ≤ 1099511627776
  · obtain ⟨t0, rfl⟩ : ∃ m : Nat, a = (m : Int) := ⟨a.toNat, by omega⟩
    have hm : t0 ≤ 1099511627776 := by omega
    have hm0 : (0 : Int) ≤ (t0 : Int) := by omega
    have hmI : (t0 : Int) ≤ 1099511627776 := by omega
    clear hr ha1 ha2
    go_enter Tryd.func3, Tryd.ntmps3
    go_wp2_with fail
    refine (known_any _ HT.out).mono ?_
    rintro e w1 ⟨rfl, ho1⟩
    have HO1 := Lib.hid ho1
    clear ho1
    go_wp2_with fail
    refine (newInbox_ok t0 hm _).mono ?_
    rintro e w2 ⟨rfl, hx2, hb2⟩
    obtain ⟨I, HII⟩ : ∃ I, Hid (I = w1.heap.size) := ⟨_, Lib.hid rfl⟩
    rw [← HII.out] at hx2 ⊢
    have HP2 : Hid (Pi w (w2.alloc (.cells #[.int .i64 (t0 : Int), .slice none 0 0] 31)) (fun _ => False) I (newIn t0) w2.heap.size ⟨t0, []⟩ (.slice none 0 0)) := Lib.hid (by
      have h2 : OwnO w2.heap.size (.slice none 0 0) = (· = w2.heap.size) := by funext k; simp [OwnO, Value.ownBlock]
      have h3 := hx2.lt
      have h4 := HO1.out.size
      have h5 := HII.out
      have h6 := Only.of_below hb2 Nobody
      have h7 := h6.size
      refine ⟨blk_same hx2 ((Only.refl _ _).alloc _), ⟨Blk.new w2 _ _, World.ownsRow_nil _ _ _ _⟩, by omega, ?_, ?_, fun k hk => hk.elim, (HO1.out.trans h6).alloc _⟩
      · rw [h2]
        intro k hk
        omega
      · rw [h2]
        intro e2
        omega)
    clear hx2 hb2
    go_wp2_with fail
    obtain ⟨M, HMM⟩ : ∃ M, Hid (M = w2.heap.size) := ⟨_, Lib.hid rfl⟩
    rw [← HMM.out] at HP2 ⊢
    go_loopw [8] (fun i wx => ∃ (j : Nat) (S : InS) (m : MIn) (v : Value), i = .int .i64 (j : Int) ∧ j ≤ n ∧ Hid (Pi w wx (fun _ => False) I S M m v) ∧ Hid (InR S m ∧ m.taken ≤ t0 + j)) (fun i _ => n - (intOf i).toNat)
    case atStart => exact ⟨0, newIn t0, ⟨t0, []⟩, .slice none 0 0, rfl, Nat.zero_le _, HP2, Lib.hid ⟨inR_new t0, Nat.le_refl _⟩⟩
    case round =>
      obtain ⟨j, S, m, v, rfl, hj, HP, HR⟩ := hrel
      by_cases hjn : j < n
      · have hjI : (j : Int) < (n : Int) := by omega
        have hj0 : (0 : Int) ≤ (j : Int) := by omega
        obtain ⟨o, ho⟩ : ∃ o, X[j]? = some o := ⟨_, List.getElem?_eq_getElem (by rw [HXN.out]; exact hjn)⟩
        obtain ⟨ad, rfl⟩ := ops_some HXX.out (by rw [HXN.out]; omega)
        obtain ⟨hc0, hc1, hc2⟩ := op_cells HXX.out ho HP.out.only
        have HB := Lib.hid (show S.taken ≤ 2000000000000 ∧ m.taken ≤ 2000000000000 ∧ m.l.length ≤ 64 ∧ S.held ≤ 64 from by
          have h1 := HR.out.2
          have h2 := HR.out.1.taken
          have h3 := inR_len HR.out.1
          have h4 := HR.out.1.held
          omega)
        clear ho
        go_upto_region 13 with fail
        obtain ⟨Wa, HWa⟩ : ∃ W : World, Hid (W = wr.alloc (.cells #[.int .u8 o.kind.toNat, .int .i8 o.num, .int .u8 o.time.toNat] 34)) := ⟨_, Lib.hid rfl⟩
        obtain ⟨b, HBN⟩ : ∃ b, Hid (b = wr.heap.size) := ⟨_, Lib.hid rfl⟩
        rw [← HWa.out, ← HBN.out]
        have HBC : Hid (Blk Wa b 34 #[.int .u8 o.kind.toNat, .int .i8 o.num, .int .u8 o.time.toNat]) := Lib.hid (by rw [HWa.out, HBN.out]; exact Blk.new wr _ _)
        have HPA : Hid (Pi w Wa (· = b) I S M m v) := Lib.hid (HP.out.more (B := wr.heap.size) (fun k hk => HP.out.lt hk) (by rw [HWa.out]; exact (Only.refl _ _).alloc _) (fun k hk => .inr ⟨by rw [hk, HBN.out]; exact Nat.le_refl _, by rw [hk]; exact HBC.out.lt⟩))
        clear hc0 hc1 hc2
        have e0 : Wa.cell? ⟨b, 0, none⟩ = some (.int .u8 o.kind.toNat) := HBC.out.cell 0
        obtain ⟨q, hq, hq3⟩ : ∃ q : Nat, (o.kind.toNat : Int) % 3 = (q : Int) ∧ q < 3 := ⟨o.kind.toNat % 3, by omega, by omega⟩
        go_upto_if 60 with fail
        go_cut [10, 11, 12, 13, 14, 15, 16] from 47 to 148 (fun s10 s11 s12 s13 s14 s15 s16 wx => ∃ S' m' v', Pi w wx (fun _ => False) I S' M m' v' ∧ InR S' m' ∧ m'.taken ≤ t0 + (j + 1))
        case first =>
          by_cases hq0 : q = 0
          · subst hq0
            clear hq3 e0
            have HRA : Hid (InR (afterI S) (takeM m).2 ∧ (takeM m).2.taken ≤ t0 + (j + 1)) := Lib.hid ⟨inR_after HR.out.1, by have := takeM_taken m; have := HR.out.2; omega⟩
            have HIT : Hid (nextI S = (takeM m).1) := Lib.hid (inR_take HR.out.1).1
            have HNX : Hid (∀ w1, Pi w w1 (fun _ => False) I S M m v → Calls Tryd.prog 14 #[.pointer (some ⟨I, 0, none⟩)] w1 fun e w2 => e = .returned (NextV S) ∧ Pi w w2 (fun _ => False) I S M m v ∧ Only Nobody w1 w2) := Lib.hid fun w1 hp => next_pi hp HB.out.1
            have HTK : Hid (∀ w1 Z, Pi w w1 Z I S M m v → Calls Tryd.prog 15 #[.pointer (some ⟨I, 0, none⟩)] w1 fun e w2 => e = .returned (TakeV (nextI S)) ∧ Pi w w2 Z I (afterI S) M m v ∧ Only (fun k => ¬ Z k) w1 w2) := Lib.hid fun w1 Z hp => take_pi hp HB.out.1 (fun x hx => (inR_take HR.out.1).2.2.2 x (HIT.out.symm.trans hx)) (by have := HB.out.2.2.2; omega)
            have HTM : Hid (∀ w1 Z, Pi w w1 Z I (afterI S) M m v → Calls Tryd.prog 16 #[.pointer (some ⟨M, 0, none⟩)] w1 fun e w2 => e = .returned (TakeV (nextI S)) ∧ ∃ v2, Pi w w2 Z I (afterI S) M (takeM m).2 v2 ∧ Only (fun k => ¬ Z k) w1 w2) := Lib.hid fun w1 Z hp => by
              rw [HIT.out]
              exact mtake_pi hp HB.out.2.1 (by have := HB.out.2.2.1; omega) (inR_take HR.out.1).2.2.1
            have HPN := Lib.hid (HPA.out.less (Z' := fun _ => False) (fun _ h => h.elim))
            obtain ⟨S1, HS1⟩ : ∃ S1, Hid (afterI S = S1) := ⟨_, Lib.hid rfl⟩
            obtain ⟨m1, HM1⟩ : ∃ m1, Hid ((takeM m).2 = m1) := ⟨_, Lib.hid rfl⟩
            rw [HS1.out] at HTK HTM HRA
            rw [HM1.out] at HTM HRA
            cases hx : nextI S with
            | none =>
              have HV : Hid (NextV S = .tuple #[.agg #[.int .i64 0, .string ⟨#[]⟩], .bool false]) := Lib.hid (by unfold NextV; rw [hx])
              have HW : Hid (TakeV (nextI S) = .tuple #[.agg #[.int .i64 0, .string ⟨#[]⟩], .int .i64 8]) := Lib.hid (by unfold TakeV; rw [hx])
              clear hx
              rw [HV.out] at HNX
              rw [HW.out] at HTK HTM
              go_wp2_with fail
              refine (HNX.out _ HPN.out).mono ?_
              rintro e w1 ⟨rfl, hp1, ho1⟩
              have HP1 := Lib.hid hp1
              clear hp1 ho1
              go_upto_region 15 with fail
              obtain ⟨W1, HW1⟩ : ∃ W : World, Hid (W = w1.alloc (.cells #[.int .i64 0, .string ⟨#[]⟩] 36)) := ⟨_, Lib.hid rfl⟩
              obtain ⟨b1, HN1⟩ : ∃ b, Hid (b = w1.heap.size) := ⟨_, Lib.hid rfl⟩
              rw [← HW1.out, ← HN1.out]
              have HB1 : Hid (Blk W1 b1 36 #[.int .i64 0, .string ⟨#[]⟩]) := Lib.hid (by rw [HW1.out, HN1.out]; exact Blk.new w1 _ _)
              have HQ1 : Hid (Pi w W1 (· = b1) I S M m v) := Lib.hid (HP1.out.more (B := w1.heap.size) (fun k hk => HP1.out.lt hk) (by rw [HW1.out]; exact (Only.refl _ _).alloc _) (fun k hk => .inr ⟨by rw [hk, HN1.out]; exact Nat.le_refl _, by rw [hk]; exact HB1.out.lt⟩))
              go_wp2_with fail
              refine (HTK.out _ _ HQ1.out).mono ?_
              rintro e w2 ⟨rfl, hp2, ho2⟩
              have HP2' := Lib.hid hp2
              have HB1' := Lib.hid (ho2.blk HB1.out (fun h => h rfl))
              clear hp2 ho2
              go_upto_region 16 with fail
              obtain ⟨W2, HW2⟩ : ∃ W : World, Hid (W = w2.alloc (.cells #[.int .i64 0, .string ⟨#[]⟩] 36)) := ⟨_, Lib.hid rfl⟩
              obtain ⟨b2, HN2⟩ : ∃ b, Hid (b = w2.heap.size) := ⟨_, Lib.hid rfl⟩
              rw [← HW2.out, ← HN2.out]
              have HB2 : Hid (Blk W2 b2 36 #[.int .i64 0, .string ⟨#[]⟩]) := Lib.hid (by rw [HW2.out, HN2.out]; exact Blk.new w2 _ _)
              have HB12 : Hid (Blk W2 b1 36 #[.int .i64 0, .string ⟨#[]⟩]) := Lib.hid (by rw [HW2.out]; exact ((Only.refl Nobody w2).alloc _).blk HB1'.out (fun x => x))
              have HQ2 : Hid (Pi w W2 (fun k => k = b1 ∨ k = b2) I S1 M m v) := Lib.hid (HP2'.out.more (B := w2.heap.size) (fun k hk => HP2'.out.lt hk) (by rw [HW2.out]; exact (Only.refl _ _).alloc _) (fun k hk => hk.elim .inl (fun e => .inr ⟨by rw [e, HN2.out]; exact Nat.le_refl _, by rw [e]; exact HB2.out.lt⟩)))
              go_wp2_with fail
              refine (HTM.out _ _ HQ2.out).mono ?_
              rintro e w3 ⟨rfl, v2, hp3, ho3⟩
              have HP3 := Lib.hid hp3
              have HB13 := Lib.hid (ho3.blk HB12.out (fun h => h (.inl rfl)))
              have HB23 := Lib.hid (ho3.blk HB2.out (fun h => h (.inr rfl)))
              clear hp3 ho3
              go_upto_region 17 with fail
              obtain ⟨W3, HW3⟩ : ∃ W : World, Hid (W = w3.alloc (.cells #[.int .i64 0, .string ⟨#[]⟩] 36)) := ⟨_, Lib.hid rfl⟩
              obtain ⟨b3, HN3⟩ : ∃ b, Hid (b = w3.heap.size) := ⟨_, Lib.hid rfl⟩
              rw [← HW3.out, ← HN3.out]
              have HOW3 : Hid (Only Nobody w3 W3) := Lib.hid (by rw [HW3.out]; exact (Only.refl _ _).alloc _)
              have HB3 : Hid (Blk W3 b3 36 #[.int .i64 0, .string ⟨#[]⟩]) := Lib.hid (by rw [HW3.out, HN3.out]; exact Blk.new w3 _ _)
              have c10 : W3.cell? ⟨b1, 0, none⟩ = some (.int .i64 0) := (HOW3.out.blk HB13.out (fun x => x)).cell 0
              have c11 : W3.cell? ⟨b1, 1, none⟩ = some (.string ⟨#[]⟩) := (HOW3.out.blk HB13.out (fun x => x)).cell 1
              have c20 : W3.cell? ⟨b2, 0, none⟩ = some (.int .i64 0) := (HOW3.out.blk HB23.out (fun x => x)).cell 0
              have c21 : W3.cell? ⟨b2, 1, none⟩ = some (.string ⟨#[]⟩) := (HOW3.out.blk HB23.out (fun x => x)).cell 1
              have c30 : W3.cell? ⟨b3, 0, none⟩ = some (.int .i64 0) := HB3.out.cell 0
              have c31 : W3.cell? ⟨b3, 1, none⟩ = some (.string ⟨#[]⟩) := HB3.out.cell 1
              have HPF : Hid (Pi w W3 (fun _ => False) I S1 M m1 v2) := Lib.hid ((HP3.out.same HOW3.out).less (fun _ h => h.elim))
              go_wp2_with fail
              go_meet
              exact ⟨S1, m1, v2, HPF.out, HRA.out⟩
            | some x =>
              have HV : Hid (NextV S = .tuple #[.agg #[.int .i64 x.n, .string x.t], .bool true]) := Lib.hid (by unfold NextV; rw [hx])
              have HW : Hid (TakeV (nextI S) = .tuple #[.agg #[.int .i64 x.n, .string x.t], .int .i64 0]) := Lib.hid (by unfold TakeV; rw [hx])
              clear hx
              rw [HV.out] at HNX
              rw [HW.out] at HTK HTM
              go_wp2_with fail
              refine (HNX.out _ HPN.out).mono ?_
              rintro e w1 ⟨rfl, hp1, ho1⟩
              have HP1 := Lib.hid hp1
              clear hp1 ho1
              go_upto_region 15 with fail
              obtain ⟨W1, HW1⟩ : ∃ W : World, Hid (W = w1.alloc (.cells #[.int .i64 x.n, .string x.t] 36)) := ⟨_, Lib.hid rfl⟩
              obtain ⟨b1, HN1⟩ : ∃ b, Hid (b = w1.heap.size) := ⟨_, Lib.hid rfl⟩
              rw [← HW1.out, ← HN1.out]
              have HB1 : Hid (Blk W1 b1 36 #[.int .i64 x.n, .string x.t]) := Lib.hid (by rw [HW1.out, HN1.out]; exact Blk.new w1 _ _)
              have HQ1 : Hid (Pi w W1 (· = b1) I S M m v) := Lib.hid (HP1.out.more (B := w1.heap.size) (fun k hk => HP1.out.lt hk) (by rw [HW1.out]; exact (Only.refl _ _).alloc _) (fun k hk => .inr ⟨by rw [hk, HN1.out]; exact Nat.le_refl _, by rw [hk]; exact HB1.out.lt⟩))
              go_wp2_with fail
              refine (HTK.out _ _ HQ1.out).mono ?_
              rintro e w2 ⟨rfl, hp2, ho2⟩
              have HP2' := Lib.hid hp2
              have HB1' := Lib.hid (ho2.blk HB1.out (fun h => h rfl))
              clear hp2 ho2
              go_upto_region 16 with fail
              obtain ⟨W2, HW2⟩ : ∃ W : World, Hid (W = w2.alloc (.cells #[.int .i64 x.n, .string x.t] 36)) := ⟨_, Lib.hid rfl⟩
              obtain ⟨b2, HN2⟩ : ∃ b, Hid (b = w2.heap.size) := ⟨_, Lib.hid rfl⟩
              rw [← HW2.out, ← HN2.out]
              have HB2 : Hid (Blk W2 b2 36 #[.int .i64 x.n, .string x.t]) := Lib.hid (by rw [HW2.out, HN2.out]; exact Blk.new w2 _ _)
              have HB12 : Hid (Blk W2 b1 36 #[.int .i64 x.n, .string x.t]) := Lib.hid (by rw [HW2.out]; exact ((Only.refl Nobody w2).alloc _).blk HB1'.out (fun x => x))
              have HQ2 : Hid (Pi w W2 (fun k => k = b1 ∨ k = b2) I S1 M m v) := Lib.hid (HP2'.out.more (B := w2.heap.size) (fun k hk => HP2'.out.lt hk) (by rw [HW2.out]; exact (Only.refl _ _).alloc _) (fun k hk => hk.elim .inl (fun e => .inr ⟨by rw [e, HN2.out]; exact Nat.le_refl _, by rw [e]; exact HB2.out.lt⟩)))
              go_wp2_with fail
              refine (HTM.out _ _ HQ2.out).mono ?_
              rintro e w3 ⟨rfl, v2, hp3, ho3⟩
              have HP3 := Lib.hid hp3
              have HB13 := Lib.hid (ho3.blk HB12.out (fun h => h (.inl rfl)))
              have HB23 := Lib.hid (ho3.blk HB2.out (fun h => h (.inr rfl)))
              clear hp3 ho3
              go_upto_region 17 with fail
              obtain ⟨W3, HW3⟩ : ∃ W : World, Hid (W = w3.alloc (.cells #[.int .i64 x.n, .string x.t] 36)) := ⟨_, Lib.hid rfl⟩
              obtain ⟨b3, HN3⟩ : ∃ b, Hid (b = w3.heap.size) := ⟨_, Lib.hid rfl⟩
              rw [← HW3.out, ← HN3.out]
              have HOW3 : Hid (Only Nobody w3 W3) := Lib.hid (by rw [HW3.out]; exact (Only.refl _ _).alloc _)
              have HB3 : Hid (Blk W3 b3 36 #[.int .i64 x.n, .string x.t]) := Lib.hid (by rw [HW3.out, HN3.out]; exact Blk.new w3 _ _)
              have c10 : W3.cell? ⟨b1, 0, none⟩ = some (.int .i64 x.n) := (HOW3.out.blk HB13.out (fun x => x)).cell 0
              have c11 : W3.cell? ⟨b1, 1, none⟩ = some (.string x.t) := (HOW3.out.blk HB13.out (fun x => x)).cell 1
              have c20 : W3.cell? ⟨b2, 0, none⟩ = some (.int .i64 x.n) := (HOW3.out.blk HB23.out (fun x => x)).cell 0
              have c21 : W3.cell? ⟨b2, 1, none⟩ = some (.string x.t) := (HOW3.out.blk HB23.out (fun x => x)).cell 1
              have c30 : W3.cell? ⟨b3, 0, none⟩ = some (.int .i64 x.n) := HB3.out.cell 0
              have c31 : W3.cell? ⟨b3, 1, none⟩ = some (.string x.t) := HB3.out.cell 1
              have HPF : Hid (Pi w W3 (fun _ => False) I S1 M m1 v2) := Lib.hid ((HP3.out.same HOW3.out).less (fun _ h => h.elim))
              go_wp2_with fail
              go_meet
              exact ⟨S1, m1, v2, HPF.out, HRA.out⟩
          · have hqI : ¬ (q : Int) = 0 := by omega
            clear hq3 e0 hq0
            have HRA : Hid (∀ x : It, (recvI S x).1 = (recvM m x).1 ∧ InR (recvI S x).2 (recvM m x).2 ∧ (recvM m x).2.taken ≤ t0 + (j + 1)) := Lib.hid fun x => ⟨(inR_recv HR.out.1 x).1, (inR_recv HR.out.1 x).2, by rw [recvM_taken]; have := HR.out.2; omega⟩
            obtain ⟨T, HTT⟩ : ∃ T, Hid (m.taken = T) := ⟨_, Lib.hid rfl⟩
            have hTI : (T : Int) ≤ 2000000000000 := by rw [← HTT.out]; have := HB.out.2.1; omega
            have hT0 : (0 : Int) ≤ (T : Int) := by omega
            have hlo := o.lo
            obtain ⟨nu, hnu⟩ : ∃ nu, o.num = nu := ⟨_, rfl⟩
            obtain ⟨ti, hti⟩ : ∃ ti : Nat, o.time.toNat = ti := ⟨_, rfl⟩
            have hti2 : ti < 256 := by rw [← hti]; exact o.time.toNat_lt
            have HFC : Hid (∀ w', Only (fun x => x = Wa.heap.size) Wa w' → w'.cell? ⟨M, 0, none⟩ = some (.int .i64 (T : Int)) ∧ w'.cell? ⟨b, 1, none⟩ = some (.int .i8 nu) ∧ w'.cell? ⟨b, 2, none⟩ = some (.int .u8 (ti : Int))) := Lib.hid fun w' ho => by
              have h1 := (ho.blk HPA.out.m.blk (Nat.ne_of_lt HPA.out.m.blk.lt)).cell 0
              have h2 := (ho.blk HBC.out (Nat.ne_of_lt HBC.out.lt)).cell 1
              have h3 := (ho.blk HBC.out (Nat.ne_of_lt HBC.out.lt)).cell 2
              rw [HTT.out] at h1
              rw [hnu] at h2
              rw [hti] at h3
              exact ⟨h1, h2, h3⟩
            rw [hnu] at hlo
            have hnu1 : -128 ≤ nu := hlo.1
            have hnu2 : nu ≤ 127 := hlo.2
            have hti0 : (0 : Int) ≤ (ti : Int) := by omega
            have hti3 : (ti : Int) < 256 := by omega
            clear hlo hnu hti hti2
            have hw1 : IntKind.i64.wrap nu = nu := by rw [IntKind.wrap_i64]; omega
            have hw2 : IntKind.i64.wrap ((T : Int) + nu) = (T : Int) + nu := by rw [IntKind.wrap_i64]; omega
            have hw3 : IntKind.i64.wrap (ti : Int) = (ti : Int) := by rw [IntKind.wrap_i64]; omega
            obtain ⟨f0, f1, f2⟩ := HFC.out _ (Only.refl _ _)
            have HOW : Hid (Only Nobody Wa Wa) := Lib.hid (Only.refl _ _)
            have HOY : Hid (Only (fun x => x = Wa.heap.size) Wa Wa) := Lib.hid (Only.refl _ _)
            obtain ⟨Y0, HY0⟩ : ∃ Y0, Hid (Wa.heap.size = Y0) := ⟨_, Lib.hid rfl⟩
            have HZ : Hid (∀ w', Only Nobody (Wa.alloc (.cells #[.int .i64 0, .string ⟨#[]⟩] 36)) w' → Blk w' Wa.heap.size 36 #[.int .i64 0, .string ⟨#[]⟩]) := Lib.hid fun w' ho => ho.blk (Blk.new Wa _ _) (fun x => x)
            go_upto_region 19 with fail
            go_cut [16] from 47 to 148 (fun s wx => ∃ (x : It) (Y : Nat), s = .pointer (some ⟨Y, 0, none⟩) ∧ Blk wx Y 36 #[.int .i64 x.n, .string x.t] ∧ Pi w wx (· = Y) I S M m v)
            case first =>
              go_region_held3 (fun w' => w'.cell? ⟨M, 0, none⟩ = some (.int .i64 (T : Int)) ∧ w'.cell? ⟨b, 1, none⟩ = some (.int .i8 nu) ∧ w'.cell? ⟨b, 2, none⟩ = some (.int .u8 (ti : Int))) (exact HFC.out _ (by repeat (first | exact HOY.out | exact Only.refl _ _ | refine Only.drew ?_ | refine Only.alloc ?_ _ | refine only_at ?_ _))) (first
                | (go_at_call 17; refine (text_any _ _).mono ?_; rintro e w' ⟨tt, htt, rfl, ho'⟩; (first | have HBF := Lib.hid (HZ.out w' ho') | have HBF := Lib.hid (HZ.out w' (Only.trans (Only.refl _ _).drew ho')) | skip); (first | (have z0 := HBF.out.cell 0; have z1 := HBF.out.cell 1; have g0 := HBF.out.frozen 0; have g1 := HBF.out.frozen 1; have gz := HBF.out.lt; simp only [List.getElem?_toArray, List.getElem?_cons_zero, List.getElem?_cons_succ] at z0 z1) | skip); have HOW : Hid (Only Nobody Wa w') := Lib.hid (Only.trans (by repeat (first | exact HOW.out | refine Only.drew ?_ | refine Only.alloc ?_ _)) ho'); have HOY : Hid (Only (fun x => x = Wa.heap.size) Wa w') := Lib.hid (HOW.out.mono (fun _ x => x.elim)); clear ho' htt))
              all_goals
                go_wp2_with fail
                go_meet
                refine ⟨⟨(T : Int) + nu, tt⟩, _, rfl, ?_⟩
                first
                | refine ⟨Blk.new _ _ _, HPA.out.more (B := Wa.heap.size) (fun k hk => HPA.out.lt hk) (Only.alloc (by repeat (first | exact HOW.out | refine Only.drew ?_)) _) (fun k hk => .inr ⟨?_, ?_⟩)⟩
                  · rw [hk]
                    exact Only.size (F := Nobody) (by repeat (first | exact HOW.out | refine Only.drew ?_))
                  · rw [hk]
                    exact Blk.lt (Blk.new _ _ _)
                | refine ⟨(HBF.out.set_ 0 (.int .i64 ((T : Int) + nu))).set_ 1 (.string tt), Pi.off (HPA.out.more (B := Wa.heap.size) (fun k hk => HPA.out.lt hk) HOW.out (fun k hk => .inr ⟨by rw [hk]; exact Nat.le_refl _, by rw [hk]; exact HBF.out.lt⟩)) (fun k hk => by rw [hk]; exact HPA.out.only.size) ?_⟩
                  exact only_at (only_at (Only.refl _ _) _) _
            case rest =>
              obtain ⟨x, Y, rfl, hby, hpy⟩ := hcut
              have HBY := Lib.hid hby
              have HPB := Lib.hid hpy
              clear hby hpy f0 f1 f2 hw1 hw2 hw3
              obtain ⟨hx1, hx2, hx3⟩ := HRA.out x
              have HRX := Lib.hid (And.intro hx2 hx3)
              obtain ⟨r, hr⟩ : ∃ r, (recvI S x).1 = r := ⟨_, rfl⟩
              rw [hr] at hx1
              obtain ⟨S1, HS1⟩ : ∃ S1, Hid ((recvI S x).2 = S1) := ⟨_, Lib.hid rfl⟩
              obtain ⟨m1, HM1⟩ : ∃ m1, Hid ((recvM m x).2 = m1) := ⟨_, Lib.hid rfl⟩
              have HPU : Hid (∀ w1 m' v', Pi w w1 (· = Y) I S M m' v' → Calls Tryd.prog 18 #[.pointer (some ⟨I, 0, none⟩), .agg #[.int .i64 x.n, .string x.t]] w1 fun e w2 => e = .returned (.int .i64 r) ∧ Pi w w2 (· = Y) I S1 M m' v' ∧ Only (fun k => ¬ k = Y) w1 w2) := Lib.hid fun w1 m' v' hp => by
                have := receive_pi x hp HB.out.1 (by have := HB.out.2.2.2; omega)
                rw [hr, HS1.out] at this
                exact this
              have HPM : Hid (∀ w1 S', Pi w w1 (· = Y) I S' M m v → Calls Tryd.prog 19 #[.pointer (some ⟨M, 0, none⟩), .agg #[.int .i64 x.n, .string x.t]] w1 fun e w2 => e = .returned (.int .i64 r) ∧ ∃ v2, Pi w w2 (· = Y) I S' M m1 v2 ∧ Only (fun k => ¬ k = Y) w1 w2) := Lib.hid fun w1 S' hp => by
                have := mreceive_pi x hp HB.out.2.1 (by have := HB.out.2.2.1; omega)
                rw [← hx1, HM1.out] at this
                exact this
              rw [HS1.out, HM1.out] at HRX
              clear hx1 hx2 hx3 hr
              have y0 : wc.cell? ⟨Y, 0, none⟩ = some (.int .i64 x.n) := HBY.out.cell 0
              have y1 : wc.cell? ⟨Y, 1, none⟩ = some (.string x.t) := HBY.out.cell 1
              have HYC : Hid (∀ w', Only (fun k => ¬ k = Y) wc w' → w'.cell? ⟨Y, 0, none⟩ = some (.int .i64 x.n) ∧ w'.cell? ⟨Y, 1, none⟩ = some (.string x.t)) := Lib.hid fun w' ho => by
                have h1 := ho.blk HBY.out (fun h => h rfl)
                exact ⟨h1.cell 0, h1.cell 1⟩
              have HOX : Hid (Only (fun k => ¬ k = Y) wc wc) := Lib.hid (Only.refl _ _)
              go_upto_region 20 with fail
              go_cut [126] from 47 to 148 (fun t wx => t = .bool false ∧ ∃ v', Pi w wx (· = Y) I S1 M m1 v')
              case first =>
                go_region_held3 (fun w' => w'.cell? ⟨Y, 0, none⟩ = some (.int .i64 x.n) ∧ w'.cell? ⟨Y, 1, none⟩ = some (.string x.t)) (first | exact ⟨y0, y1⟩ | exact ⟨hcc.1, hcc.2⟩) (first
                  | (go_at_call 18; refine (HPU.out _ _ _ (HPB.out.same (by repeat (first | exact Only.refl _ _ | refine Only.drew ?_)))).mono ?_; rintro e w' ⟨rfl, hp2, hz2⟩; have HPB := Lib.hid hp2; have HOX : Hid (Only (fun k => ¬ k = Y) wc w') := Lib.hid (Only.trans (by repeat (first | exact HOX.out | refine Only.drew ?_)) hz2); have hcc := HYC.out _ HOX.out; clear hp2 hz2)
                  | (go_at_call 19; refine (HPM.out _ _ (HPB.out.same (by repeat (first | exact Only.refl _ _ | refine Only.drew ?_)))).mono ?_; rintro e w' ⟨rfl, v2, hp2, hz2⟩; have HPB := Lib.hid hp2; have HOX : Hid (Only (fun k => ¬ k = Y) wc w') := Lib.hid (Only.trans (by repeat (first | exact HOX.out | refine Only.drew ?_)) hz2); have hcc := HYC.out _ HOX.out; clear hp2 hz2))
                all_goals
                  go_wp2_with fail
                  go_meet
                  exact ⟨rfl, _, HPB.out.same (by repeat (first | exact Only.refl _ _ | refine Only.drew ?_))⟩
              case rest =>
                obtain ⟨rfl, v2, hp⟩ := hcut
                have HPZ := Lib.hid hp
                clear hp y0 y1
                go_wp2_with fail
                go_meet
                exact ⟨S1, m1, v2, HPZ.out.less (fun _ h => h.elim), HRX.out⟩
        case rest =>
          obtain ⟨S', m', v', hP, hR', hT'⟩ := hcut
          have HP' := Lib.hid hP
          have HR' := Lib.hid (And.intro hR' hT')
          clear hP hR' hT' e0 hq hq3
          obtain ⟨T, HTT⟩ : ∃ T, Hid (m'.taken = T) := ⟨_, Lib.hid rfl⟩
          obtain ⟨N, HNN⟩ : ∃ N, Hid (m'.l.length = N) := ⟨_, Lib.hid rfl⟩
          have hN64 : ¬ (64 : Int) < (N : Int) := by have := inR_len HR'.out.1; rw [HNN.out] at this; omega
          obtain ⟨A2, c2, hvv⟩ := own_form HP'.out.m.row
          rw [HNN.out] at hvv
          have HTS : Hid (S'.taken = T) := Lib.hid (HR'.out.1.taken.trans HTT.out)
          have HHS : Hid (S'.held = N) := Lib.hid (HR'.out.1.held.trans HNN.out)
          have HKM : Hid (∀ w', Only Nobody wc w' → w'.cell? ⟨M, 0, none⟩ = some (.int .i64 (T : Int)) ∧ w'.cell? ⟨M, 1, none⟩ = some (.slice A2 N c2)) := Lib.hid fun w' ho => by
            have h0 := (HP'.out.m.same ho).blk.cell 0
            have h1 := (HP'.out.m.same ho).blk.cell 1
            rw [HTT.out] at h0
            rw [hvv] at h1
            exact ⟨h0, h1⟩
          clear hvv
          obtain ⟨k0, k1⟩ := HKM.out _ (Only.refl _ _)
          have HQT : Hid (∀ w', Only Nobody wc w' → Calls Tryd.prog 20 #[.pointer (some ⟨I, 0, none⟩)] w' fun e w'' => e = .returned (.int .i64 (T : Int)) ∧ w' = w'') := Lib.hid fun w' ho => by rw [← HTS.out]; exact taken_in I S' w' (blk_same HP'.out.i ho)
          have HQH : Hid (∀ w', Only Nobody wc w' → Calls Tryd.prog 21 #[.pointer (some ⟨I, 0, none⟩)] w' fun e w'' => e = .returned (.int .i64 (N : Int)) ∧ w' = w'') := Lib.hid fun w' ho => by rw [← HHS.out]; exact held_in I S' w' (blk_same HP'.out.i ho)
          go_upto_region 22 with fail
          go_cut [148] from 47 to 148 (fun t wx => t = .bool false ∧ Only Nobody wc wx)
          case first =>
            go_region_held3 (fun w' => w'.cell? ⟨M, 0, none⟩ = some (.int .i64 (T : Int)) ∧ w'.cell? ⟨M, 1, none⟩ = some (.slice A2 N c2)) (exact HKM.out _ (by repeat (first | exact Only.refl _ _ | refine Only.drew ?_))) (first
              | (go_at_call 20; refine (HQT.out _ (by repeat (first | exact Only.refl _ _ | refine Only.drew ?_))).mono ?_; rintro e w' ⟨rfl, rfl⟩)
              | (go_at_call 21; refine (HQH.out _ (by repeat (first | exact Only.refl _ _ | refine Only.drew ?_))).mono ?_; rintro e w' ⟨rfl, rfl⟩))
            all_goals
              go_wp2_with fail
              go_meet
              exact ⟨by rw [decide_eq_false (show ¬ (64 : Int) < (N : Int) by omega)], (by repeat (first | exact Only.refl _ _ | refine Only.drew ?_))⟩
          case rest =>
            obtain ⟨rfl, hoc⟩ := hcut
            have HPE := Lib.hid (HP'.out.same hoc)
            clear hoc k0 k1
            go_wp2_with fail
            go_roundw
            case rel =>
              first
              | exact ⟨j + 1, S', m', v', by go_num, by omega, HPE, HR'⟩
              | ((repeat apply Exists.intro); exact ⟨⟨j + 1, S', m', v', by go_num, by omega, HPE, HR'⟩, rfl⟩)
            case measure => simp [intOf]; omega
      · obtain rfl : j = n := by omega
        go_wp2_with fail
        go_ret
        exact ⟨rfl, HP.out.only⟩
  · have HBD := Lib.hid (newInbox_bad a hr)
    by_cases h0 : a < 0
    · have hd0 : decide (a < 0) = true := by simpa using h0
      go_enter Tryd.func3, Tryd.ntmps3
      go_wp2_with fail
      refine (known_any _ HT.out).mono ?_
      rintro e w1 ⟨rfl, ho1⟩
      have HO1 := Lib.hid ho1
      clear ho1
      go_wp2_with fail
      refine (HBD.out _).mono ?_
      rintro e w2 ⟨rfl, rfl⟩
      go_wp2_with fail
      go_ret
      exact ⟨rfl, HO1.out⟩
    · have h1 : 1099511627776 < a := by omega
      have hd0 : decide (a < 0) = false := by simpa using h0
      clear hr
      go_enter Tryd.func3, Tryd.ntmps3
      go_wp2_with fail
      refine (known_any _ HT.out).mono ?_
      rintro e w1 ⟨rfl, ho1⟩
      have HO1 := Lib.hid ho1
      clear ho1
      go_wp2_with fail
      refine (HBD.out _).mono ?_
      rintro e w2 ⟨rfl, rfl⟩
      go_wp2_with fail
      go_ret
      exact ⟨rfl, HO1.out⟩
end Go.Proofs.YthmndclmecnpmaaDoor
