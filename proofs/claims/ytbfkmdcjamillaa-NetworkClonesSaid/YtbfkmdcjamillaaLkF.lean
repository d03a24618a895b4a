/- Network: agree, for a step, a receive (printed by gen_lkf.py). -/
import Derived.Test.YtbfkmdcjamillaaLkE
namespace Go.Proofs.Ytbfkmdcjamillaa
open Go.RowKit
attribute [local go_sem ↓] Go.wp_at_zero Go.wp_at_succ

theorem tick_pq {w0 w : World} {Z : Nat → Prop} {N M : Nat} {S : NetS} {L : LinkS} (h : PQ w0 w Z N S M L) : PQ w0 (w.setCell ⟨M, 1, none⟩ (.int .i64 ((L.now : Int) + 1))) Z N S M { L with now := L.now + 1 } ∧ Only (fun k => ¬ Z k) w (w.setCell ⟨M, 1, none⟩ (.int .i64 ((L.now : Int) + 1))) := by
  obtain ⟨F, vs, vp, vc, h⟩ := h
  have hS : Only (· = M) w (w.setCell ⟨M, 1, none⟩ (.int .i64 ((L.now : Int) + 1))) := (Only.refl (· = M) w).setCell (p := ⟨M, 1, none⟩) (.inl rfl) _
  refine h.step_m (vp' := vp) (vc' := vc) ⟨?_, hS.row h.m.scr (fun g e hg => h.m.neS (by rw [e, hg])), hS.row h.m.pcs (fun g e hg => h.m.neP (by rw [e, hg])), hS.row h.m.cts (fun g e hg => h.m.neC (by rw [e, hg]))⟩ (hS.mono (fun k e => .inl e)) (fun _ e => .inl e) (fun _ e => .inl e)
  have := h.m.blk.set_ 1 (.int .i64 ((L.now : Int) + 1))
  have e : ((L.now + 1 : Nat) : Int) = (L.now : Int) + 1 := by omega
  show Blk _ M _ #[vs, .int .i64 ((L.now + 1 : Nat) : Int), .int .i64 L.sent, .int .i64 L.lost, vp, vc]
  rw [e]
  exact this

set_option maxRecDepth 100000 in
set_option maxHeartbeats 4000000 in
theorem agree_step {w0 w : World} {Z : Nat → Prop} {N M : Nat} {S : NetS} {P : List Pc} {L : LinkS} {q : Nat} (o : Op4) (h : PQ w0 w Z N S M L) (hz : ∀ k, Z k → k < w.heap.size) (hr : Run S P L q) (hq : q ≤ 900) (hk : o.kind.toNat % 8 = 3 ∨ o.kind.toNat % 8 = 4) :
    Calls Try.prog 27 #[.pointer (some ⟨N, 0, none⟩), .pointer (some ⟨M, 0, none⟩), .agg #[.int .u8 o.kind.toNat, .int .u8 o.from_.toNat, .int .u8 o.to_.toNat, .int .u8 o.data.toNat]] w (AgPost w0 w Z N M (q + 1) L.script) := by
  obtain ⟨sm, sl⟩ := run_small hr (by omega)
  have HS := Lib.hid sm
  have HL := Lib.hid sl
  obtain ⟨hb1, hb2⟩ := op_box h hz o
  have HB1 := Lib.hid hb1
  have HBZ := Lib.hid hb2
  obtain ⟨W, HW⟩ : ∃ W, Hid (W = w.alloc (.cells #[.int .u8 (o.kind.toNat : Int), .int .u8 (o.from_.toNat : Int), .int .u8 (o.to_.toNat : Int), .int .u8 (o.data.toNat : Int)] 33)) := ⟨_, Lib.hid rfl⟩
  obtain ⟨b, HB⟩ : ∃ b, Hid (b = w.heap.size) := ⟨_, Lib.hid rfl⟩
  rw [← HW.out, ← HB.out] at HB1
  have HBL : Hid (Blk W b 33 #[.int .u8 (o.kind.toNat : Int), .int .u8 (o.from_.toNat : Int), .int .u8 (o.to_.toNat : Int), .int .u8 (o.data.toNat : Int)]) := Lib.hid (by rw [HW.out, HB.out]; exact Blk.new w _ _)
  have HOW : Hid (Only Nobody w W) := Lib.hid (by rw [HW.out]; exact (Only.refl _ _).alloc _)
  have HC : Hid (∀ w', Only (fun k => ¬ (Z k ∨ k = b)) W w' → w'.cell? ⟨b, 0, none⟩ = some (.int .u8 o.kind.toNat) ∧ w'.cell? ⟨b, 1, none⟩ = some (.int .u8 o.from_.toNat) ∧ w'.cell? ⟨b, 2, none⟩ = some (.int .u8 o.to_.toNat) ∧ w'.cell? ⟨b, 3, none⟩ = some (.int .u8 o.data.toNat)) := Lib.hid fun w' ho => by
    have hb := ho.blk HBL.out (fun h => h (.inr rfl))
    exact ⟨hb.cell 0, hb.cell 1, hb.cell 2, hb.cell 3⟩
  obtain ⟨a, HA⟩ : ∃ a, Hid (placeS o.from_.toNat = a) := ⟨_, Lib.hid rfl⟩
  obtain ⟨t, HT⟩ : ∃ t, Hid (placeS o.to_.toNat = t) := ⟨_, Lib.hid rfl⟩
  have HPA : Hid (∀ w, Calls Try.prog 19 #[.int .u8 o.from_.toNat] w fun e w' => e = .returned (.string a) ∧ Only Nobody w w') := Lib.hid fun w => by rw [← HA.out]; exact placeOf_any o.from_ w
  have HPT : Hid (∀ w, Calls Try.prog 19 #[.int .u8 o.to_.toNat] w fun e w' => e = .returned (.string t) ∧ Only Nobody w w') := Lib.hid fun w => by rw [← HT.out]; exact placeOf_any o.to_ w
  have HAS : Hid (a.size ≤ maxLen) := Lib.hid (by rw [← HA.out]; exact placeS_ok _)
  have HTS : Hid (t.size ≤ maxLen) := Lib.hid (by rw [← HT.out]; exact placeS_ok _)
  have HRU := Lib.hid (run_step hr)
  have HQ9 := Lib.hid hq
  have HK : Hid ((o.kind.toNat : Int) % 8 = 3 ∨ (o.kind.toNat : Int) % 8 = 4) := Lib.hid (by omega)
  have HOZ : Hid (Only (fun k => ¬ (Z k ∨ k = b)) W W) := Lib.hid (Only.refl _ _)
  have HPB := HB1
  clear h hz hr hq hk sm sl hb1 hb2 HB1
  obtain ⟨c0, c1, c2, c3⟩ := HC.out _ (Only.refl _ _)
  go_enter Try.func27, Try.ntmps27
  go_upto_region 1 with fail
  rw [← HW.out, ← HB.out]
  go_cut [7, 8] (fun s7 s8 wx => s7 = .string a ∧ s8 = .string t ∧ Only Nobody W wx)
  case first =>
    have HOX : Hid (Only Nobody W W) := Lib.hid (Only.refl _ _)
    have HCN : Hid (∀ w', Only Nobody W w' → w'.cell? ⟨b, 1, none⟩ = some (.int .u8 o.from_.toNat) ∧ w'.cell? ⟨b, 2, none⟩ = some (.int .u8 o.to_.toNat)) := Lib.hid fun w' ho => by
      have := HC.out w' (ho.mono (fun _ x => x.elim))
      exact ⟨this.2.1, this.2.2.1⟩
    have tokA : True := trivial
    go_region_held3 (fun w' => w'.cell? ⟨b, 1, none⟩ = some (.int .u8 o.from_.toNat) ∧ w'.cell? ⟨b, 2, none⟩ = some (.int .u8 o.to_.toNat)) (exact HCN.out _ (by repeat (first | exact HOX.out | refine Only.drew ?_))) (first
      | (go_at_call 19; (with_reducible refine (HPA.out _).mono ?_); rintro e w' ⟨rfl, ho'⟩; have HOX : Hid (Only Nobody W w') := Lib.hid (Only.trans (by repeat (first | exact HOX.out | refine Only.drew ?_)) ho'); clear ho')
      | (go_at_call 19; (with_reducible refine (HPT.out _).mono ?_); rintro e w' ⟨rfl, ho'⟩; have HOX : Hid (Only Nobody W w') := Lib.hid (Only.trans (by repeat (first | exact HOX.out | refine Only.drew ?_)) ho'); clear ho'))
    all_goals
      go_wp2_with fail
      go_meet
      exact ⟨rfl, rfl, by repeat (first | exact HOX.out | refine Only.drew ?_)⟩
  case rest =>
    obtain ⟨rfl, rfl, hox⟩ := hcut
    have HPC := Lib.hid (HPB.out.same hox)
    have HOC : Hid (Only (fun k => ¬ (Z k ∨ k = b)) W wc) := Lib.hid (hox.mono (fun _ x => x.elim))
    obtain ⟨d0, d1, d2, d3⟩ := HC.out _ HOC.out
    clear hox c0 c1 c2 c3
    have HOZ := HOC
    have HPB := HPC
    have HNOW : Hid (∀ w', PQ w0 w' (fun k => Z k ∨ k = b) N { S with now := S.now + 1 } M L → w'.cell? ⟨M, 1, none⟩ = some (.int .i64 (L.now : Int)) ∧ w'.frozen? ⟨M, 1, none⟩ = false ∧ M < w'.heap.size) := Lib.hid fun w' hp => by
      obtain ⟨A, c, h1, _⟩ := hp.cells
      obtain ⟨F, vs, vp, vc, hn⟩ := hp
      exact ⟨h1, hn.m.blk.frozen 1, hn.m.blk.lt⟩
    have HLN := Lib.hid HL.out.now
    rcases HK.out with hk8 | hk8
    all_goals
      go_upto_region 17 with fail
      go_wp2_with fail
      refine (nstep_pq HPB.out HS.out.now).mono ?_
      rintro e w1 ⟨rfl, hp1, ho1⟩
      have HP1 := Lib.hid hp1
      have HOZ : Hid (Only (fun k => ¬ (Z k ∨ k = b)) W w1) := Lib.hid (HOZ.out.trans ho1)
      obtain ⟨k1, kf, km⟩ := HNOW.out _ hp1
      have hln := HLN.out
      clear hp1 ho1
      obtain ⟨T, HT⟩ : ∃ T, Hid (L.now = T) := ⟨_, Lib.hid rfl⟩
      rw [HT.out] at k1 hln
      have hTI : (T : Int) ≤ 100000 := by omega
      have hT0 : (0 : Int) ≤ (T : Int) := by omega
      go_wp2_with fail
      have HP2 : Hid (PQ w0 (w1.setCell ⟨M, 1, none⟩ (.int .i64 ((T : Int) + 1))) (fun k => Z k ∨ k = b) N { S with now := S.now + 1 } M { L with now := L.now + 1 } ∧ Only (fun k => ¬ (Z k ∨ k = b)) w1 (w1.setCell ⟨M, 1, none⟩ (.int .i64 ((T : Int) + 1)))) := Lib.hid (by
        rw [← HT.out]
        exact tick_pq HP1.out)
      refine (counts_pq HP2.out.1 HRU.out (by have := HQ9.out; omega)).mono ?_
      rintro e w9 ⟨rfl, ho9⟩
      have HO9 := Lib.hid ho9
      clear ho9
      go_wp2_with fail
      go_ret
      exact ⟨rfl, _, _, _, (HP2.out.1.same HO9.out).less (fun k hk => .inl hk), HRU.out, (HOW.out.mono (fun _ x => x.elim)).trans (((HOZ.out.trans HP2.out.2).trans (HO9.out.mono (fun _ x => x.elim))).mono (fun k hk hz => hk (.inl hz))), rfl⟩

set_option maxRecDepth 100000 in
set_option maxHeartbeats 4000000 in
theorem agree_recv {w0 w : World} {Z : Nat → Prop} {N M : Nat} {S : NetS} {P : List Pc} {L : LinkS} {q : Nat} (o : Op4) (h : PQ w0 w Z N S M L) (hz : ∀ k, Z k → k < w.heap.size) (hr : Run S P L q) (hq : q ≤ 900) (hk : o.kind.toNat % 8 = 5 ∨ o.kind.toNat % 8 = 6) :
    Calls Try.prog 27 #[.pointer (some ⟨N, 0, none⟩), .pointer (some ⟨M, 0, none⟩), .agg #[.int .u8 o.kind.toNat, .int .u8 o.from_.toNat, .int .u8 o.to_.toNat, .int .u8 o.data.toNat]] w (AgPost w0 w Z N M (q + 1) L.script) := by
  obtain ⟨sm, sl⟩ := run_small hr (by omega)
  have HS := Lib.hid sm
  have HL := Lib.hid sl
  obtain ⟨hb1, hb2⟩ := op_box h hz o
  have HB1 := Lib.hid hb1
  have HBZ := Lib.hid hb2
  obtain ⟨W, HW⟩ : ∃ W, Hid (W = w.alloc (.cells #[.int .u8 (o.kind.toNat : Int), .int .u8 (o.from_.toNat : Int), .int .u8 (o.to_.toNat : Int), .int .u8 (o.data.toNat : Int)] 33)) := ⟨_, Lib.hid rfl⟩
  obtain ⟨b, HB⟩ : ∃ b, Hid (b = w.heap.size) := ⟨_, Lib.hid rfl⟩
  rw [← HW.out, ← HB.out] at HB1
  have HBL : Hid (Blk W b 33 #[.int .u8 (o.kind.toNat : Int), .int .u8 (o.from_.toNat : Int), .int .u8 (o.to_.toNat : Int), .int .u8 (o.data.toNat : Int)]) := Lib.hid (by rw [HW.out, HB.out]; exact Blk.new w _ _)
  have HOW : Hid (Only Nobody w W) := Lib.hid (by rw [HW.out]; exact (Only.refl _ _).alloc _)
  have HC : Hid (∀ w', Only (fun k => ¬ (Z k ∨ k = b)) W w' → w'.cell? ⟨b, 0, none⟩ = some (.int .u8 o.kind.toNat) ∧ w'.cell? ⟨b, 1, none⟩ = some (.int .u8 o.from_.toNat) ∧ w'.cell? ⟨b, 2, none⟩ = some (.int .u8 o.to_.toNat) ∧ w'.cell? ⟨b, 3, none⟩ = some (.int .u8 o.data.toNat)) := Lib.hid fun w' ho => by
    have hb := ho.blk HBL.out (fun h => h (.inr rfl))
    exact ⟨hb.cell 0, hb.cell 1, hb.cell 2, hb.cell 3⟩
  obtain ⟨a, HA⟩ : ∃ a, Hid (placeS o.from_.toNat = a) := ⟨_, Lib.hid rfl⟩
  obtain ⟨t, HT⟩ : ∃ t, Hid (placeS o.to_.toNat = t) := ⟨_, Lib.hid rfl⟩
  have HPA : Hid (∀ w, Calls Try.prog 19 #[.int .u8 o.from_.toNat] w fun e w' => e = .returned (.string a) ∧ Only Nobody w w') := Lib.hid fun w => by rw [← HA.out]; exact placeOf_any o.from_ w
  have HPT : Hid (∀ w, Calls Try.prog 19 #[.int .u8 o.to_.toNat] w fun e w' => e = .returned (.string t) ∧ Only Nobody w w') := Lib.hid fun w => by rw [← HT.out]; exact placeOf_any o.to_ w
  have HAS : Hid (a.size ≤ maxLen) := Lib.hid (by rw [← HA.out]; exact placeS_ok _)
  have HTS : Hid (t.size ≤ maxLen) := Lib.hid (by rw [← HT.out]; exact placeS_ok _)
  obtain ⟨hre, hru⟩ := run_recv hr t
  have HRU := Lib.hid (run_mono hru (Nat.le_succ q))
  have HQ9 := Lib.hid hq
  have HK : Hid ((o.kind.toNat : Int) % 8 = 5 ∨ (o.kind.toNat : Int) % 8 = 6) := Lib.hid (by omega)
  obtain ⟨l, hll⟩ : ∃ l, netTake S t = l := ⟨_, rfl⟩
  obtain ⟨L', hml⟩ : ∃ L', (mRecv L t).2 = L' := ⟨_, rfl⟩
  have hln : l.length ≤ 5000 := by
    rw [← hll, hre]
    refine Nat.le_trans (outR_len t sl.pos _) ?_
    have := sl.pcs
    omega
  have HSC : Hid (L'.script = L.script) := Lib.hid (by rw [← hml]; rfl)
  rw [hml] at HRU
  rw [hll] at hre
  have HNR : Hid (∀ w', PQ w0 w' (fun k => Z k ∨ k = b) N S M L → Calls Try.prog 18 #[.pointer (some ⟨N, 0, none⟩), .string t] w' fun e w'' => ∃ v, e = .returned v ∧ w''.ownsRow w'.heap.size 38 2 v l.length (pksOf l) ∧ PQ w0 w'' (fun k => (Z k ∨ k = b) ∨ v.ownBlock = some k) N (netLeft S t) M L ∧ Only (fun k => ¬ (Z k ∨ k = b)) w' w'') := Lib.hid fun w' hp => by
    have := nrecv_pq t hp HS.out.pend HTS.out
    rw [hll] at this
    exact this
  have HMR : Hid (∀ w' Z', PQ w0 w' Z' N (netLeft S t) M L → Calls Try.prog 40 #[.pointer (some ⟨M, 0, none⟩), .string t] w' fun e w'' => ∃ v, e = .returned v ∧ w''.ownsRow w'.heap.size 38 2 v l.length (pksOf l) ∧ PQ w0 w'' Z' N (netLeft S t) M L' ∧ Only (fun k => ¬ Z' k) w' w'') := Lib.hid fun w' Z' hp => by
    have := mrecv_pq t hp HL.out
    rw [← hre, hml] at this
    exact this
  obtain ⟨n, HN⟩ : ∃ n, Hid (l.length = n) := ⟨_, Lib.hid rfl⟩
  rw [HN.out] at hln
  have HOZ : Hid (Only (fun k => ¬ (Z k ∨ k = b)) W W) := Lib.hid (Only.refl _ _)
  have HPB := HB1
  clear h hz hr hq hk sm sl hb1 hb2 HB1 hre hru hll hml
  obtain ⟨c0, c1, c2, c3⟩ := HC.out _ (Only.refl _ _)
  go_enter Try.func27, Try.ntmps27
  go_upto_region 1 with fail
  rw [← HW.out, ← HB.out]
  go_cut [7, 8] (fun s7 s8 wx => s7 = .string a ∧ s8 = .string t ∧ Only Nobody W wx)
  case first =>
    have HOX : Hid (Only Nobody W W) := Lib.hid (Only.refl _ _)
    have HCN : Hid (∀ w', Only Nobody W w' → w'.cell? ⟨b, 1, none⟩ = some (.int .u8 o.from_.toNat) ∧ w'.cell? ⟨b, 2, none⟩ = some (.int .u8 o.to_.toNat)) := Lib.hid fun w' ho => by
      have := HC.out w' (ho.mono (fun _ x => x.elim))
      exact ⟨this.2.1, this.2.2.1⟩
    have tokA : True := trivial
    go_region_held3 (fun w' => w'.cell? ⟨b, 1, none⟩ = some (.int .u8 o.from_.toNat) ∧ w'.cell? ⟨b, 2, none⟩ = some (.int .u8 o.to_.toNat)) (exact HCN.out _ (by repeat (first | exact HOX.out | refine Only.drew ?_))) (first
      | (go_at_call 19; (with_reducible refine (HPA.out _).mono ?_); rintro e w' ⟨rfl, ho'⟩; have HOX : Hid (Only Nobody W w') := Lib.hid (Only.trans (by repeat (first | exact HOX.out | refine Only.drew ?_)) ho'); clear ho')
      | (go_at_call 19; (with_reducible refine (HPT.out _).mono ?_); rintro e w' ⟨rfl, ho'⟩; have HOX : Hid (Only Nobody W w') := Lib.hid (Only.trans (by repeat (first | exact HOX.out | refine Only.drew ?_)) ho'); clear ho'))
    all_goals
      go_wp2_with fail
      go_meet
      exact ⟨rfl, rfl, by repeat (first | exact HOX.out | refine Only.drew ?_)⟩
  case rest =>
    obtain ⟨rfl, rfl, hox⟩ := hcut
    have HPC := Lib.hid (HPB.out.same hox)
    have HOC : Hid (Only (fun k => ¬ (Z k ∨ k = b)) W wc) := Lib.hid (hox.mono (fun _ x => x.elim))
    obtain ⟨d0, d1, d2, d3⟩ := HC.out _ HOC.out
    clear hox c0 c1 c2 c3
    have HOZ := HOC
    have HPB := HPC
    rcases HK.out with hk8 | hk8
    all_goals
      go_upto_region 21 with fail
      go_wp2_with fail
      refine (HNR.out _ HPB.out).mono ?_
      rintro e w1 ⟨v1, rfl, hr1, hp1, ho1⟩
      have HR1 := Lib.hid hr1
      have HP1 := Lib.hid hp1
      have HOZ : Hid (Only (fun k => ¬ (Z k ∨ k = b)) W w1) := Lib.hid (HOZ.out.trans ho1)
      clear hr1 hp1 ho1
      go_wp2_with fail
      refine (HMR.out _ _ HP1.out).mono ?_
      rintro e w2 ⟨v2, rfl, hr2, hp2, ho2⟩
      have HR2 := Lib.hid hr2
      have HP2 := Lib.hid hp2
      have HR12 : Hid (w2.ownsRow wc.heap.size 38 2 v1 l.length (pksOf l)) := Lib.hid (ho2.row HR1.out (fun g e h => h (.inr e)))
      have HOZ : Hid (Only (fun k => ¬ (Z k ∨ k = b)) W w2) := Lib.hid (HOZ.out.trans (ho2.mono (fun k h1 h2 => h1 (.inl h2))))
      clear hr2 hp2 ho2 HR1
      obtain ⟨A1, c1, hv1⟩ := own_form HR12.out
      obtain ⟨A2, c2, hv2⟩ := own_form HR2.out
      subst hv1
      subst hv2
      rw [HN.out]
      have hnI : (n : Int) ≤ 5000 := by omega
      go_wp2_with fail
      go_loopw [11] (fun i wx => ∃ j : Nat, i = .int .i64 (j : Int) ∧ j ≤ n ∧ Hid (Only Nobody w2 wx)) (fun i _ => n - (intOf i).toNat)
      case atStart => exact ⟨0, rfl, Nat.zero_le _, Lib.hid (Only.refl _ _)⟩
      case round =>
        obtain ⟨j, rfl, hj, HOJ⟩ := hrel
        by_cases hjn : j < n
        · have hjI : (j : Int) < (n : Int) := by omega
          have hj0 : (0 : Int) ≤ (j : Int) := by omega
          obtain ⟨x, hx⟩ : ∃ x, l[j]? = some x := ⟨_, List.getElem?_eq_getElem (by rw [HN.out]; exact hjn)⟩
          have hra := HOJ.out.row HR12.out (fun _ _ x => x)
          have hrb := HOJ.out.row HR2.out (fun _ _ x => x)
          rw [HN.out] at hra hrb
          obtain ⟨g1, hA1, _, _, hnc1, hg1⟩ := pk_at HN.out.symm (by rw [HN.out]; exact hra) (by omega)
          obtain ⟨g2, hA2, _, _, hnc2, hg2⟩ := pk_at HN.out.symm (by rw [HN.out]; exact hrb) (by omega)
          subst hA1
          subst hA2
          obtain ⟨a0, a1⟩ := hg1 j x hx
          obtain ⟨b0, b1⟩ := hg2 j x hx
          clear hg1 hg2 hx hra hrb
          go_wp2_with fail
          go_quiet (fail)
          go_wp2_with fail
          go_roundw
          case rel =>
            first
            | exact ⟨j + 1, by go_num, by omega, Lib.hid (HOJ.out.drewN _)⟩
            | ((repeat apply Exists.intro); exact ⟨⟨j + 1, by go_num, by omega, Lib.hid (HOJ.out.drewN _)⟩, rfl⟩)
          case measure => simp [intOf]; omega
        · obtain rfl : j = n := by omega
          have HP3 := Lib.hid (HP2.out.same HOJ.out)
          go_wp2_with fail
          refine (counts_pq HP3.out HRU.out (by have := HQ9.out; omega)).mono ?_
          rintro e w9 ⟨rfl, ho9⟩
          have HO9 := Lib.hid ho9
          clear ho9
          go_wp2_with fail
          go_ret
          exact ⟨rfl, _, _, _, (HP3.out.same HO9.out).less (fun k hk => .inl (.inl hk)), HRU.out, (HOW.out.mono (fun _ x => x.elim)).trans (((HOZ.out.trans (HOJ.out.mono (fun _ x => x.elim))).trans (HO9.out.mono (fun _ x => x.elim))).mono (fun k hk hz => hk (.inl hz))), HSC.out⟩
end Go.Proofs.Ytbfkmdcjamillaa
