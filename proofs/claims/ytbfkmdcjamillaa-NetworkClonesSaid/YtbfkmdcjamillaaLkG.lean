/- Network: agree, for a cut, a join (printed by gen_lkg.py). -/
import Derived.Test.YtbfkmdcjamillaaLkF
import Derived.Deep.RegionLaw
namespace Go.Proofs.Ytbfkmdcjamillaa
open Go.RowKit
attribute [local go_sem ↓] Go.wp_at_zero Go.wp_at_succ

theorem infoCt : (Try.prog.info? 71).map (fun i => (i.zero, i.size, i.bytes)) = some (some (.agg #[.string ByteArray.empty, .string ByteArray.empty]), 2, 32) := by kernel_rfl
theorem ctC_drop : ∀ (l : List (ByteArray × ByteArray)) (k : Nat), (ctC l).drop (k * 2) = ctC (l.drop k)
  | l, 0 => by simp
  | [], k + 1 => by simp [ctC]
  | z :: l, k + 1 => by
    have e : ctC (z :: l) = ctCells z ++ ctC l := rfl
    have hl : (ctCells z).length = 2 := rfl
    rw [e, show (k + 1) * 2 = (ctCells z).length + k * 2 by rw [hl]; omega, List.drop_append, List.drop_of_length_le (by omega), List.nil_append, Nat.add_sub_cancel_left, List.drop_succ_cons, ctC_drop l k]
theorem ctC_take : ∀ (l : List (ByteArray × ByteArray)) (k : Nat), (ctC l).take (k * 2) = ctC (l.take k)
  | l, 0 => by simp [ctC]
  | [], k + 1 => by simp [ctC]
  | z :: l, k + 1 => by
    have e : ctC (z :: l) = ctCells z ++ ctC l := rfl
    have hl : (ctCells z).length = 2 := rfl
    have e2 : ctC (z :: l.take k) = ctCells z ++ ctC (l.take k) := rfl
    rw [e, show (k + 1) * 2 = (ctCells z).length + k * 2 by rw [hl]; omega, List.take_append, List.take_of_length_le (by omega), Nat.add_sub_cancel_left, List.take_succ_cons, ctC_take l k, e2]
theorem ct_cut {w : World} {e : TypeId} {g o N c d : Nat} {l : List (ByteArray × ByteArray)} (h : RowAt w 0 e 2 (.slice (some ⟨g, o, none⟩) N c) N (ctC l)) (hd : d ≤ N) : RowAt w 0 e 2 (.slice (some ⟨g, o, none⟩) d c) d (ctC (l.take d)) ∧ RowAt w 0 e 2 (.slice (some ⟨g, o + d * 2, none⟩) (N - d) (c - d)) (N - d) (ctC (l.drop d)) ∧ (N = d → RowAt w 0 e 2 (.slice (some ⟨g, o, none⟩) 0 0) 0 (ctC (l.drop d))) := by
  have hlen := h.1
  rw [ctC_len] at hlen
  rcases h.2 with ⟨hv, _⟩ | ⟨g', o', cap, cur, hv, hb, hg, hnc, hcm, hs, ht⟩
  · cases hv
  · injection hv with h1 h2 h3
    injection h1 with h1
    injection h1 with h1 h4
    subst h1; subst h4; subst h3
    refine ⟨⟨by rw [ctC_len, List.length_take]; omega, .inr ⟨g, o, c, cur, rfl, hb, hg, by omega, by omega, by omega, ?_⟩⟩, ⟨by rw [ctC_len, List.length_drop]; omega, .inr ⟨g, o + d * 2, c - d, cur, rfl, hb, hg, by omega, by omega, by omega, ?_⟩⟩, fun e => ⟨by rw [ctC_len, List.length_drop]; omega, .inr ⟨g, o, 0, cur, rfl, hb, hg, by omega, by omega, by omega, ?_⟩⟩⟩
    · rw [← ctC_take, ← ht, List.take_take]
      congr 1
      omega
    · rw [← ctC_drop, ← ht, List.drop_take, List.drop_drop]
      congr 1
      omega
    · have e2 : l.drop d = [] := List.drop_of_length_le (by omega)
      rw [e2]
      simp [ctC]
theorem oneCell_ct (l : List (ByteArray × ByteArray)) : ∀ u ∈ ctC l, u.oneCell' = true := by
  intro u hu
  obtain ⟨y, _, hu⟩ := List.mem_flatMap.1 hu
  simp only [ctCells, List.mem_cons, List.not_mem_nil, or_false] at hu
  rcases hu with rfl | rfl <;> rfl

theorem new_only {W w1 : World} {o : Obj} (hg : (W.alloc o).drew.grownBy w1 (some W.heap.size)) : Only Nobody W w1 :=
  (Only.refl Nobody W).trans_more ((((Only.refl (More Nobody W) W).alloc o).drew).trans (Only.of_grown hg (fun k e => .inr (by injection e with e; omega))))
theorem lk_cuts {wr w1 : World} {M : Nat} {L : LinkS} {vs vp v v' : Value} {l' : List (ByteArray × ByteArray)} (h : LkAt wr M L vs vp v) (hO : Only (fun k => v.ownBlock = some k) wr w1) (hrow : w1.ownsRow 0 71 2 v' l'.length (ctC l')) (hn : NewOf v v' wr) :
    LkAt (w1.setCell ⟨M, 5, none⟩ v') M { L with cuts := l' } vs vp v' ∧ Only (fun k => k = M ∨ v.ownBlock = some k) wr (w1.setCell ⟨M, 5, none⟩ v') := by
  have hb : Blk w1 M 49 #[vs, .int .i64 L.now, .int .i64 L.sent, .int .i64 L.lost, vp, v] := hO.blk h.blk (fun e => h.neC e)
  have hO2 : Only (fun k => k = M ∨ v.ownBlock = some k) wr (w1.setCell ⟨M, 5, none⟩ v') := (hO.mono (fun k e => .inr e)).setCell (p := ⟨M, 5, none⟩) (.inl (.inl rfl)) v'
  have hM : Only (· = M) w1 (w1.setCell ⟨M, 5, none⟩ v') := (Only.refl (· = M) w1).setCell (p := ⟨M, 5, none⟩) (.inl rfl) v'
  refine ⟨⟨hb.set_ 5 v', hO2.row h.scr (fun g e hg => ?_), hO2.row h.pcs (fun g e hg => ?_), hM.row hrow (fun g e hg => ?_)⟩, hO2⟩
  · rcases hg with rfl | hg
    · exact h.neS e
    · exact h.neSC e hg
  · rcases hg with rfl | hg
    · exact h.neP e
    · exact h.nePC e hg
  · rcases hn g e with h1 | h1
    · exact h.neC (by rw [h1, hg])
    · have := h.blk.lt; omega

set_option maxRecDepth 100000 in
set_option maxHeartbeats 4000000 in
theorem agree_cut {w0 w : World} {Z : Nat → Prop} {N M : Nat} {S : NetS} {P : List Pc} {L : LinkS} {q : Nat} (o : Op4) (h : PQ w0 w Z N S M L) (hz : ∀ k, Z k → k < w.heap.size) (hr : Run S P L q) (hq : q ≤ 900) (hk : o.kind.toNat % 8 = 7) :
    Calls Try.prog 27 #[.pointer (some ⟨N, 0, none⟩), .pointer (some ⟨M, 0, none⟩), .agg #[.int .u8 o.kind.toNat, .int .u8 o.from_.toNat, .int .u8 o.to_.toNat, .int .u8 o.data.toNat]] w (AgPost w0 w Z N M (q + 1) L.script) := by
  obtain ⟨sm, sl⟩ := run_small hr (by omega)
  have HS := Lib.hid sm
  have HL := Lib.hid sl
  obtain ⟨hb1, hb2⟩ := op_box h hz o
  have HB1 := Lib.hid hb1
  have HBZ := Lib.hid hb2
  obtain ⟨W, HW⟩ : ∃ W, Hid (W = w.alloc (.cells #[.int .u8 (o.kind.toNat : Int), .int .u8 (o.from_.toNat : Int), .int .u8 (o.to_.toNat : Int), .int .u8 (o.data.toNat : Int)] 33)) := ⟨_, Lib.hid rfl⟩
  obtain ⟨b, HB⟩ : ∃ b, Hid (b = w.heap.size) := ⟨_, Lib.hid rfl⟩
  rw [← HW.out, ← HB.out] at HB1
  have HBL : Hid (Blk W b 33 #[.int .u8 (o.kind.toNat : Int), .int .u8 (o.from_.toNat : Int), .int .u8 (o.to_.toNat : Int), .int .u8 (o.data.toNat : Int)]) := Lib.hid (by rw [HW.out, HB.out]; exact Blk.new w _ _)
  have HOW : Hid (Only Nobody w W) := Lib.hid (by rw [HW.out]; exact (Only.refl _ _).alloc _)
  have HC : Hid (∀ w', Only (fun k => ¬ (Z k ∨ k = b)) W w' → w'.cell? ⟨b, 0, none⟩ = some (.int .u8 o.kind.toNat) ∧ w'.cell? ⟨b, 1, none⟩ = some (.int .u8 o.from_.toNat) ∧ w'.cell? ⟨b, 2, none⟩ = some (.int .u8 o.to_.toNat) ∧ w'.cell? ⟨b, 3, none⟩ = some (.int .u8 o.data.toNat)) := Lib.hid fun w' ho => by
    have hb := ho.blk HBL.out (fun h => h (.inr rfl))
    exact ⟨hb.cell 0, hb.cell 1, hb.cell 2, hb.cell 3⟩
  obtain ⟨a, HA⟩ : ∃ a, Hid (placeS o.from_.toNat = a) := ⟨_, Lib.hid rfl⟩
  obtain ⟨t, HT⟩ : ∃ t, Hid (placeS o.to_.toNat = t) := ⟨_, Lib.hid rfl⟩
  have HPA : Hid (∀ w, Calls Try.prog 19 #[.int .u8 o.from_.toNat] w fun e w' => e = .returned (.string a) ∧ Only Nobody w w') := Lib.hid fun w => by rw [← HA.out]; exact placeOf_any o.from_ w
  have HPT : Hid (∀ w, Calls Try.prog 19 #[.int .u8 o.to_.toNat] w fun e w' => e = .returned (.string t) ∧ Only Nobody w w') := Lib.hid fun w => by rw [← HT.out]; exact placeOf_any o.to_ w
  have HAS : Hid (a.size ≤ maxLen) := Lib.hid (by rw [← HA.out]; exact placeS_ok _)
  have HTS : Hid (t.size ≤ maxLen) := Lib.hid (by rw [← HT.out]; exact placeS_ok _)
  obtain ⟨mc, hmc⟩ : ∃ mc, cutN L a t = mc := ⟨_, rfl⟩
  have HCU : Hid (cutN L a t = mc) := Lib.hid hmc
  have HQ9 := Lib.hid hq
  have HK : Hid ((o.kind.toNat : Int) % 8 = 7) := Lib.hid (by omega)
  have HRR := Lib.hid hr
  have HMC : Hid (∀ w', PQ w0 w' (fun k => Z k ∨ k = b) N S M L → Calls Try.prog 41 #[.pointer (some ⟨M, 0, none⟩), .string a, .string t] w' fun e w'' => e = .returned (.int .i64 mc) ∧ Only Nobody w' w'') := Lib.hid fun w' hp => by
    rw [← hmc]
    exact mcut_pq a t hp HL.out
  have HOZ : Hid (Only (fun k => ¬ (Z k ∨ k = b)) W W) := Lib.hid (Only.refl _ _)
  have HPB := HB1
  clear h hz hr hq hk sm sl hb1 hb2 HB1 hmc
  obtain ⟨c0, c1, c2, c3⟩ := HC.out _ (Only.refl _ _)
  go_enter Try.func27, Try.ntmps27
  go_upto_region 1 with fail
  rw [← HW.out, ← HB.out]
  go_cut [7, 8] (fun s7 s8 wx => s7 = .string a ∧ s8 = .string t ∧ Only Nobody W wx)
  case first =>
    have HOX : Hid (Only Nobody W W) := Lib.hid (Only.refl _ _)
    have HCN : Hid (∀ w', Only Nobody W w' → w'.cell? ⟨b, 1, none⟩ = some (.int .u8 o.from_.toNat) ∧ w'.cell? ⟨b, 2, none⟩ = some (.int .u8 o.to_.toNat)) := Lib.hid fun w' ho => by
      have := HC.out w' (ho.mono (fun _ x => x.elim))
      exact ⟨this.2.1, this.2.2.1⟩
    have tokA : True := trivial
    go_region_held3 (fun w' => w'.cell? ⟨b, 1, none⟩ = some (.int .u8 o.from_.toNat) ∧ w'.cell? ⟨b, 2, none⟩ = some (.int .u8 o.to_.toNat)) (exact HCN.out _ (by repeat (first | exact HOX.out | refine Only.drew ?_))) (first
      | (go_at_call 19; (with_reducible refine (HPA.out _).mono ?_); rintro e w' ⟨rfl, ho'⟩; have HOX : Hid (Only Nobody W w') := Lib.hid (Only.trans (by repeat (first | exact HOX.out | refine Only.drew ?_)) ho'); clear ho')
      | (go_at_call 19; (with_reducible refine (HPT.out _).mono ?_); rintro e w' ⟨rfl, ho'⟩; have HOX : Hid (Only Nobody W w') := Lib.hid (Only.trans (by repeat (first | exact HOX.out | refine Only.drew ?_)) ho'); clear ho'))
    all_goals
      go_wp2_with fail
      go_meet
      exact ⟨rfl, rfl, by repeat (first | exact HOX.out | refine Only.drew ?_)⟩
  case rest =>
    obtain ⟨rfl, rfl, hox⟩ := hcut
    have HPC := Lib.hid (HPB.out.same hox)
    have HOC : Hid (Only (fun k => ¬ (Z k ∨ k = b)) W wc) := Lib.hid (hox.mono (fun _ x => x.elim))
    obtain ⟨d0, d1, d2, d3⟩ := HC.out _ HOC.out
    clear hox c0 c1 c2 c3
    have hk8 := HK.out
    go_upto_region 3 with fail
    go_wp2_with fail
    refine (HMC.out _ HPC.out).mono ?_
    rintro e w1 ⟨rfl, ho1⟩
    have HP1 := Lib.hid (HPC.out.same ho1)
    have HOZ : Hid (Only (fun k => ¬ (Z k ∨ k = b)) W w1) := Lib.hid (HOC.out.trans (ho1.mono (fun _ x => x.elim)))
    clear ho1 d0 d1 d2 d3
    obtain ⟨d0, d1, d2, d3⟩ := HC.out _ HOZ.out
    obtain ⟨dd, hdd⟩ : ∃ dd : Nat, o.data.toNat = dd := ⟨_, rfl⟩
    rw [hdd] at d3
    clear hdd
    by_cases hev : dd % 2 = 0
    · have hevI : (dd : Int) % 2 = 0 := by omega
      clear hev
      go_wp2_with fail
      refine (ncut_pq a t HP1.out HS.out.ncut HAS.out HTS.out).mono ?_
      rintro e w2 ⟨rfl, hp2, ho2⟩
      have HP2 := Lib.hid hp2
      have HOY : Hid (Only (fun k => ¬ (Z k ∨ k = b)) W w2) := Lib.hid (HOZ.out.trans ho2)
      clear hp2 ho2
      cases hci : L.cutI a t with
      | some i =>
        have hmcI : mc = (i : Int) := by rw [← HCU.out]; unfold cutN; rw [hci]
        have HRF : Hid (Run (S.link_ a t true 1) P L (q + 1)) := Lib.hid (by
          have := run_cut HRR.out a t
          unfold mCut at this
          rw [hci] at this
          exact this)
        have HPF := HP2
        have HOF := HOY
        subst hmcI
        have hi0 : ¬ (i : Int) < 0 := by omega
        clear hci HCU
        go_wp2_with fail
        refine (counts_pq HPF.out HRF.out (by have := HQ9.out; omega)).mono ?_
        rintro e w9 ⟨rfl, ho9⟩
        have HO9 := Lib.hid ho9
        clear ho9
        go_wp2_with fail
        go_ret
        exact ⟨rfl, _, _, _, (HPF.out.same HO9.out).less (fun k hk => .inl hk), HRF.out, (HOW.out.mono (fun _ x => x.elim)).trans ((HOF.out.trans (HO9.out.mono (fun _ x => x.elim))).mono (fun k hk hz => hk (.inl hz))), rfl⟩
      | none =>
        have hmcI : mc = -1 := by rw [← HCU.out]; unfold cutN; rw [hci]
        have HRF : Hid (Run (S.link_ a t true 1) P { L with cuts := L.cuts ++ [(a, t)] } (q + 1)) := Lib.hid (by
          have := run_cut HRR.out a t
          unfold mCut at this
          rw [hci] at this
          exact this)
        subst hmcI
        clear hci HCU
        obtain ⟨F, vs, vp, vc, hn⟩ := HP2.out
        have HN := Lib.hid hn
        obtain ⟨nc, HNC⟩ : ∃ nc, Hid (L.cuts.length = nc) := ⟨_, Lib.hid rfl⟩
        obtain ⟨Ac, cc, rfl⟩ : ∃ A c, vc = .slice A nc c := by
          have := own_form hn.m.cts
          rw [HNC.out] at this
          exact this
        have hnc : nc ≤ 5000 := by rw [← HNC.out]; exact HL.out.cuts
        have k5 : w2.cell? ⟨M, 5, none⟩ = some (.slice Ac nc cc) := hn.m.blk.cell 5
        have kf : w2.frozen? ⟨M, 5, none⟩ = false := hn.m.blk.frozen 5
        have kM : M < w2.heap.size := hn.m.blk.lt
        obtain ⟨i0, hi0, hz0, hz1, hz2⟩ := info_parts infoCt
        have HU : Hid (∀ u ∈ ctCells (a, t), u.oneCell' = true) := Lib.hid (by intro u hu; simp only [ctCells, List.mem_cons, List.not_mem_nil, or_false] at hu; rcases hu with rfl | rfl <;> rfl)
        have HR : Hid (Reads (w2.alloc (.cells #[.string a, .string t] 71)) (w2.heap.size + 1) 2 (some ⟨w2.heap.size, 0, none⟩) 1 (ctCells (a, t))) := Lib.hid (reads_alloc w2 71 #[.string a, .string t] 2 1 rfl)
        have HRW : Hid ((w2.alloc (.cells #[.string a, .string t] 71)).ownsRow 0 71 2 (.slice Ac nc cc) nc (ctC L.cuts)) := Lib.hid (by
          have := hn.m.cts
          rw [HNC.out] at this
          exact ((Only.refl Nobody w2).alloc _).row this (fun _ _ x => x))
        have HNE : Hid ((Value.slice Ac nc cc).ownBlock ≠ some M) := Lib.hid hn.m.neC
        clear hn
        go_upto_region 7 with fail
        go_wp2_with (at_builtin
                     refine wpList_append_any _ rfl (.tmp 40) (.tmp 44) _ rfl 0 71 i0 _ 2 32 Try.underlying47 hi0 hz0 hz1 hz2 rfl (by omega) (.slice Ac nc cc) nc (ctC L.cuts) rfl HRW.out _ (some ⟨w2.heap.size, 0, none⟩) 1 1 (ctCells (a, t)) rfl HR.out HU.out (by unfold maxLen; omega) (by omega) (by omega) ?_)
        intro v3 w3 hown3 hg3 hat3
        obtain ⟨A3, c3, rfl⟩ := own_form hown3
        have HO3 := Lib.hid hown3
        have HG3 := Lib.hid hg3
        have HAT := Lib.hid hat3
        have kb : Blk w3 M 49 #[vs, .int .i64 L.now, .int .i64 L.sent, .int .i64 L.lost, vp, .slice Ac nc cc] := (hg3.block M (by simp; omega) (fun e => HNE.out e.symm)).trans ((HN.out.m.same ((Only.refl Nobody w2).alloc _)).blk)
        have k6 : w3.cell? ⟨M, 5, none⟩ = some (.slice Ac nc cc) := kb.cell 5
        have kg : w3.frozen? ⟨M, 5, none⟩ = false := kb.frozen 5
        have kN : M < w3.heap.size := kb.lt
        clear hown3 hg3 hat3 kb
        go_wp2_with fail
        have hON : Only (fun k => (Value.slice Ac nc cc).ownBlock = some k) w2 w3 := ((Only.refl _ w2).alloc _).trans (Only.of_grown HG3.out (fun k e => e))
        have hNO : NewOf (.slice Ac nc cc) (.slice A3 (nc + 1) c3) w2 := fun k hk => HAT.out.elim (fun e => .inl (by rw [← e]; exact hk)) (fun e => .inr (by
          rw [e] at hk
          injection hk with hk
          omega))
        have hrow : w3.ownsRow 0 71 2 (.slice A3 (nc + 1) c3) (L.cuts ++ [(a, t)]).length (ctC (L.cuts ++ [(a, t)])) := by
          rw [List.length_append, List.length_singleton, HNC.out, show ctC (L.cuts ++ [(a, t)]) = ctC L.cuts ++ ctCells (a, t) by simp [ctC]]
          exact HO3.out
        have hE := lk_cuts HN.out.m hON hrow hNO
        have hF := HN.out.step_m hE.1 (hE.2.mono (fun k hk => hk.elim .inl (fun e => .inr (.inr (.inr e))))) (fun _ e => .inl e) hNO
        have HPF := Lib.hid hF.1
        have HOF : Hid (Only (fun k => ¬ (Z k ∨ k = b)) W (w3.setCell ⟨M, 5, none⟩ (.slice A3 (nc + 1) c3))) := Lib.hid (HOY.out.trans hF.2)
        clear hON hNO hrow hE hF
        refine (counts_pq HPF.out HRF.out (by have := HQ9.out; omega)).mono ?_
        rintro e w9 ⟨rfl, ho9⟩
        have HO9 := Lib.hid ho9
        clear ho9
        go_wp2_with fail
        go_ret
        exact ⟨rfl, _, _, _, (HPF.out.same HO9.out).less (fun k hk => .inl hk), HRF.out, (HOW.out.mono (fun _ x => x.elim)).trans ((HOF.out.trans (HO9.out.mono (fun _ x => x.elim))).mono (fun k hk hz => hk (.inl hz))), rfl⟩
    · have hevI : (dd : Int) % 2 = 1 := by omega
      clear hev
      go_wp2_with fail
      refine (njoin_pq a t HP1.out HAS.out HTS.out).mono ?_
      rintro e w2 ⟨rfl, hp2, ho2⟩
      have HP2 := Lib.hid hp2
      have HOY : Hid (Only (fun k => ¬ (Z k ∨ k = b)) W w2) := Lib.hid (HOZ.out.trans ho2)
      clear hp2 ho2
      cases hci : L.cutI a t with
      | none =>
        have hmcI : mc = -1 := by rw [← HCU.out]; unfold cutN; rw [hci]
        have HRF : Hid (Run (S.link_ a t false 0) P L (q + 1)) := Lib.hid (by
          have := run_join HRR.out a t
          unfold mJoin at this
          rw [hci] at this
          exact run_mono this (Nat.le_succ q))
        have HPF := HP2
        have HOF := HOY
        subst hmcI
        clear hci HCU
        go_wp2_with fail
        refine (counts_pq HPF.out HRF.out (by have := HQ9.out; omega)).mono ?_
        rintro e w9 ⟨rfl, ho9⟩
        have HO9 := Lib.hid ho9
        clear ho9
        go_wp2_with fail
        go_ret
        exact ⟨rfl, _, _, _, (HPF.out.same HO9.out).less (fun k hk => .inl hk), HRF.out, (HOW.out.mono (fun _ x => x.elim)).trans ((HOF.out.trans (HO9.out.mono (fun _ x => x.elim))).mono (fun k hk hz => hk (.inl hz))), rfl⟩
      | some k =>
        have hmcI : mc = (k : Int) := by rw [← HCU.out]; unfold cutN; rw [hci]
        have HRF : Hid (Run (S.link_ a t false 0) P { L with cuts := L.cuts.take k ++ L.cuts.drop (k + 1) } (q + 1)) := Lib.hid (by
          have := run_join HRR.out a t
          unfold mJoin at this
          rw [hci] at this
          exact run_mono this (Nat.le_succ q))
        have hkl : k < L.cuts.length := by
          unfold LinkS.cutI at hci
          exact (List.findIdx?_eq_some_iff_getElem.1 hci).1
        subst hmcI
        clear hci HCU
        have hk0 : (0 : Int) ≤ (k : Int) := by omega
        have hkd : decide ((0 : Int) ≤ (k : Int)) = true := by simp
        obtain ⟨F, vs, vp, vc, hn⟩ := HP2.out
        have HN := Lib.hid hn
        obtain ⟨nc, HNC⟩ : ∃ nc, Hid (L.cuts.length = nc) := ⟨_, Lib.hid rfl⟩
        have hrw := hn.m.cts
        rw [HNC.out] at hrw hkl
        have hnc : nc ≤ 5000 := by rw [← HNC.out]; exact HL.out.cuts
        obtain ⟨g, c, rfl, hgl, hNc⟩ : ∃ g c, vc = .slice (some ⟨g, 0, none⟩) nc c ∧ g < w2.heap.size ∧ nc ≤ c := by
          rcases hrw.2 with ⟨_, h0⟩ | ⟨g, cap, cur, h1, _, h3, h4, _⟩
          · omega
          · exact ⟨g, cap, h1, (Array.getElem?_eq_some_iff.1 h3).1, h4⟩
        have HRW := Lib.hid hrw
        have HCC : Hid (∀ w', Only Nobody w2 w' → w'.cell? ⟨M, 5, none⟩ = some (.slice (some ⟨g, 0, none⟩) nc c) ∧ w'.frozen? ⟨M, 5, none⟩ = false ∧ M < w'.heap.size) := Lib.hid fun w' ho =>
          ⟨(HN.out.m.same ho).blk.cell 5, (HN.out.m.same ho).blk.frozen 5, (HN.out.m.same ho).blk.lt⟩
        have hcI : (nc : Int) ≤ (c : Int) := by omega
        have hkI : (k : Int) < (nc : Int) := by omega
        have hw2 : IntKind.i64.wrap ((k : Int) + 1) = (k : Int) + 1 := by rw [IntKind.wrap_i64]; omega
        obtain ⟨i0, hi0, hz0, hz1, hz2⟩ := info_parts infoCt
        have HEM : Hid ((w2.alloc (.cells #[] 71)).drew.ownsRow w2.heap.size 71 2 (.slice (some ⟨w2.heap.size, 0, none⟩) 0 0) 0 []) := Lib.hid ⟨rfl, .inr ⟨w2.heap.size, 0, #[], rfl, Nat.le_refl _, Blk.new w2 _ _, Nat.le_refl _, by unfold maxLen; omega, rfl, rfl⟩⟩
        have HRA : Hid (∀ w', Only Nobody w2 w' → RowAt w' 0 71 2 (.slice (some ⟨g, 0, none⟩) nc c) nc (ctC L.cuts)) := Lib.hid fun w' ho => (RowAt.of_own HRW.out).keep ho (fun _ _ x => x)
        have HR1 : Hid (∀ w', Only Nobody w2 w' → Reads w' w'.heap.size 2 (some ⟨g, 0, none⟩) k (ctC (L.cuts.take k))) := Lib.hid fun w' ho => (ct_cut (HRA.out w' ho) (by omega)).1.reads
        have HU1 := Lib.hid (oneCell_ct (L.cuts.take k))
        have HU2 := Lib.hid (oneCell_ct (L.cuts.drop (k + 1)))
        obtain ⟨k5, kf, kM⟩ := HCC.out _ (Only.refl _ _)
        clear hn hrw
        by_cases hck : c = k + 1
        · have hNk : nc = k + 1 := by omega
          have HR2 : Hid (∀ w', Only Nobody w2 w' → Reads w' w'.heap.size 2 (some ⟨g, 0, none⟩) 0 (ctC (L.cuts.drop (k + 1)))) := Lib.hid fun w' ho => ((ct_cut (d := k + 1) (HRA.out w' ho) (by omega)).2.2 hNk).reads
          subst hck
          subst hNk
          have hs1 : (k : Int) ≤ (k : Int) + 1 := by omega
          have hs2 : (0 : Int) ≤ (k : Int) + 1 := by omega
          have hs3 : (k : Int) < (k : Int) + 1 := by omega
          go_wp2_with fail
          go_region_law (first
            | (refine step_append_any _ rfl (.tmp 55) (.tmp 61) 47 rfl w2.heap.size 71 i0 _ 2 32 Try.underlying47 hi0 hz0 hz1 hz2 rfl (by omega) (.slice (some ⟨w2.heap.size, 0, none⟩) 0 0) 0 [] (by first | rfl | simp [Act.eval, Act.put]) HEM.out _ (some ⟨g, 0, none⟩) k (k + 1) (ctC (L.cuts.take k)) (by first | rfl | simp [Act.eval, Act.put]) (HR1.out _ (by repeat (first | exact Only.refl _ _ | refine Only.drew ?_ | refine Only.alloc ?_ _))) HU1.out (by unfold maxLen; omega) (by omega) (by simp) ?_; intro v1 w3 hown1 hgr1 hat1; rw [Nat.zero_add, List.nil_append] at hown1; obtain ⟨A1, c1, rfl⟩ := own_form hown1; have HO1 := Lib.hid hown1; have HWA : Hid (Only Nobody w2 w3) := Lib.hid (new_only hgr1); obtain ⟨z1, z2, z3⟩ := HCC.out w3 HWA.out; have HSZ : Hid (w2.heap.size ≤ w3.heap.size) := Lib.hid HWA.out.size; clear hown1 hgr1 hat1)
            | (refine step_append_any _ rfl (.tmp 62) (.tmp 69) 47 rfl w2.heap.size 71 i0 _ 2 32 Try.underlying47 hi0 hz0 hz1 hz2 rfl (by omega) (.slice A1 k c1) k (ctC (L.cuts.take k)) (by first | rfl | simp [Act.eval, Act.put]) HO1.out _ (some ⟨g, 0, none⟩) 0 0 (ctC (L.cuts.drop (k + 1))) (by first | rfl | simp [Act.eval, Act.put]) (HR2.out _ HWA.out) HU2.out (by unfold maxLen; omega) (by omega) HSZ.out ?_; intro v2 w4 hown2 hgr2 hat2; obtain ⟨A2', c2', rfl⟩ := own_form hown2; have HO2 := Lib.hid hown2; have HWB : Hid (Only Nobody w2 w4) := Lib.hid (HWA.out.trans_more (Only.of_grown hgr2 (fun k' e => .inr (HO1.out.lt k' e).1))); obtain ⟨y1, y2, y3⟩ := HCC.out w4 HWB.out; clear hown2 hgr2 hat2))
          all_goals
            have hNO : NewOf (.slice (some ⟨g, 0, none⟩) (k + 1) (k + 1)) (.slice A2' (k + (0)) c2') w2 := fun k' e => .inr (HO2.out.lt k' e).1
            have hrow : w4.ownsRow 0 71 2 (.slice A2' (k + (0)) c2') (L.cuts.take k ++ L.cuts.drop (k + 1)).length (ctC (L.cuts.take k ++ L.cuts.drop (k + 1))) := by
              have hlen : (L.cuts.take k ++ L.cuts.drop (k + 1)).length = k + (0) := by
                have := HNC.out
                rw [List.length_append, List.length_take, List.length_drop]
                omega
              rw [hlen, show ctC (L.cuts.take k ++ L.cuts.drop (k + 1)) = ctC (L.cuts.take k) ++ ctC (L.cuts.drop (k + 1)) by simp [ctC]]
              exact own_base HO2.out (Nat.zero_le _)
            have hE := lk_cuts HN.out.m (HWB.out.mono (fun _ x => x.elim)) hrow hNO
            have hF := HN.out.step_m hE.1 (hE.2.mono (fun k hk => hk.elim .inl (fun e => .inr (.inr (.inr e))))) (fun _ e => .inl e) hNO
            have HPF := Lib.hid hF.1
            have HOF : Hid (Only (fun k => ¬ (Z k ∨ k = b)) W (w4.setCell ⟨M, 5, none⟩ (.slice A2' (k + (0)) c2'))) := Lib.hid (HOY.out.trans hF.2)
            clear hNO hrow hE hF
            go_wp2_with fail
            refine (counts_pq HPF.out HRF.out (by have := HQ9.out; omega)).mono ?_
            rintro e w9 ⟨rfl, ho9⟩
            have HO9 := Lib.hid ho9
            clear ho9
            go_wp2_with fail
            go_ret
            exact ⟨rfl, _, _, _, (HPF.out.same HO9.out).less (fun k hk => .inl hk), HRF.out, (HOW.out.mono (fun _ x => x.elim)).trans ((HOF.out.trans (HO9.out.mono (fun _ x => x.elim))).mono (fun k hk hz => hk (.inl hz))), rfl⟩
        · have hckI : ¬ (c : Int) = (k : Int) + 1 := by omega
          have hkc : (k : Int) + 1 ≤ (c : Int) := by omega
          have hkc0 : (k : Int) ≤ (c : Int) := by omega
          have hk10 : (0 : Int) ≤ (k : Int) + 1 := by omega
          have hkcn : k ≤ c := by omega
          have hk1n : k + 1 ≤ nc := by omega
          have hk1c : k + 1 ≤ c := by omega
          have hkN : (k : Int) + 1 ≤ (nc : Int) := by omega
          have HR2 : Hid (∀ w', Only Nobody w2 w' → Reads w' w'.heap.size 2 (some ⟨g, (k + 1) * 2, none⟩) (nc - (k + 1)) (ctC (L.cuts.drop (k + 1)))) := Lib.hid fun w' ho => by
            have := (ct_cut (d := k + 1) (HRA.out w' ho) (by omega)).2.1.reads
            rw [Nat.zero_add] at this
            exact this
          go_wp2_with fail
          go_region_law (first
            | (refine step_append_any _ rfl (.tmp 55) (.tmp 61) 47 rfl w2.heap.size 71 i0 _ 2 32 Try.underlying47 hi0 hz0 hz1 hz2 rfl (by omega) (.slice (some ⟨w2.heap.size, 0, none⟩) 0 0) 0 [] (by first | rfl | simp [Act.eval, Act.put]) HEM.out _ (some ⟨g, 0, none⟩) k c (ctC (L.cuts.take k)) (by first | rfl | simp [Act.eval, Act.put]) (HR1.out _ (by repeat (first | exact Only.refl _ _ | refine Only.drew ?_ | refine Only.alloc ?_ _))) HU1.out (by unfold maxLen; omega) (by omega) (by simp) ?_; intro v1 w3 hown1 hgr1 hat1; rw [Nat.zero_add, List.nil_append] at hown1; obtain ⟨A1, c1, rfl⟩ := own_form hown1; have HO1 := Lib.hid hown1; have HWA : Hid (Only Nobody w2 w3) := Lib.hid (new_only hgr1); obtain ⟨z1, z2, z3⟩ := HCC.out w3 HWA.out; have HSZ : Hid (w2.heap.size ≤ w3.heap.size) := Lib.hid HWA.out.size; clear hown1 hgr1 hat1)
            | (refine step_append_any _ rfl (.tmp 62) (.tmp 69) 47 rfl w2.heap.size 71 i0 _ 2 32 Try.underlying47 hi0 hz0 hz1 hz2 rfl (by omega) (.slice A1 k c1) k (ctC (L.cuts.take k)) (by first | rfl | simp [Act.eval, Act.put]) HO1.out _ (some ⟨g, (k + 1) * 2, none⟩) (nc - (k + 1)) (c - (k + 1)) (ctC (L.cuts.drop (k + 1))) (by first | rfl | simp [Act.eval, Act.put]) (HR2.out _ HWA.out) HU2.out (by unfold maxLen; omega) (by omega) HSZ.out ?_; intro v2 w4 hown2 hgr2 hat2; obtain ⟨A2', c2', rfl⟩ := own_form hown2; have HO2 := Lib.hid hown2; have HWB : Hid (Only Nobody w2 w4) := Lib.hid (HWA.out.trans_more (Only.of_grown hgr2 (fun k' e => .inr (HO1.out.lt k' e).1))); obtain ⟨y1, y2, y3⟩ := HCC.out w4 HWB.out; clear hown2 hgr2 hat2))
          all_goals
            have hNO : NewOf (.slice (some ⟨g, 0, none⟩) nc c) (.slice A2' (k + ((nc - (k + 1)))) c2') w2 := fun k' e => .inr (HO2.out.lt k' e).1
            have hrow : w4.ownsRow 0 71 2 (.slice A2' (k + ((nc - (k + 1)))) c2') (L.cuts.take k ++ L.cuts.drop (k + 1)).length (ctC (L.cuts.take k ++ L.cuts.drop (k + 1))) := by
              have hlen : (L.cuts.take k ++ L.cuts.drop (k + 1)).length = k + ((nc - (k + 1))) := by
                have := HNC.out
                rw [List.length_append, List.length_take, List.length_drop]
                omega
              rw [hlen, show ctC (L.cuts.take k ++ L.cuts.drop (k + 1)) = ctC (L.cuts.take k) ++ ctC (L.cuts.drop (k + 1)) by simp [ctC]]
              exact own_base HO2.out (Nat.zero_le _)
            have hE := lk_cuts HN.out.m (HWB.out.mono (fun _ x => x.elim)) hrow hNO
            have hF := HN.out.step_m hE.1 (hE.2.mono (fun k hk => hk.elim .inl (fun e => .inr (.inr (.inr e))))) (fun _ e => .inl e) hNO
            have HPF := Lib.hid hF.1
            have HOF : Hid (Only (fun k => ¬ (Z k ∨ k = b)) W (w4.setCell ⟨M, 5, none⟩ (.slice A2' (k + ((nc - (k + 1)))) c2'))) := Lib.hid (HOY.out.trans hF.2)
            clear hNO hrow hE hF
            go_wp2_with fail
            refine (counts_pq HPF.out HRF.out (by have := HQ9.out; omega)).mono ?_
            rintro e w9 ⟨rfl, ho9⟩
            have HO9 := Lib.hid ho9
            clear ho9
            go_wp2_with fail
            go_ret
            exact ⟨rfl, _, _, _, (HPF.out.same HO9.out).less (fun k hk => .inl hk), HRF.out, (HOW.out.mono (fun _ x => x.elim)).trans ((HOF.out.trans (HO9.out.mono (fun _ x => x.elim))).mono (fun k hk hz => hk (.inl hz))), rfl⟩
end Go.Proofs.Ytbfkmdcjamillaa
