/- Exchange: contracts of the model's ack, pending, due. -/
import Derived.Test.YthmndclmecnpmaaDoorMoB
import Derived.Deep.LoopGhost
namespace Go.Proofs.YthmndclmecnpmaaDoor
open Go.RowKit
attribute [local go_sem ↓] Go.wp_at_zero Go.wp_at_succ

theorem RowAt.base_le {w : World} {base base' : Nat} {e : TypeId} {size n : Nat} {v : Value} {xs : List Value} (h : RowAt w base e size v n xs) (hb : base' ≤ base) : RowAt w base' e size v n xs := by
  refine ⟨h.1, ?_⟩
  rcases h.2 with h0 | ⟨g, o, cap, cur, hv, h1, h2⟩
  · exact .inl h0
  · exact .inr ⟨g, o, cap, cur, hv, by omega, h2⟩
theorem row_cut1 {w : World} {e : TypeId} {g o N c : Nat} {l : List Snd} (h : RowAt w 0 e 4 (.slice (some ⟨g, o, none⟩) N c) N (sndsC l)) (hd : 1 ≤ N) : RowAt w 0 e 4 (.slice (some ⟨g, o + 4, none⟩) (N - 1) (c - 1)) (N - 1) (sndsC (l.drop 1)) ∧ (N = 1 → RowAt w 0 e 4 (.slice (some ⟨g, o, none⟩) 0 0) 0 (sndsC (l.drop 1))) := by
  have hlen := h.1
  rw [sndsC_len] at hlen
  rcases h.2 with ⟨hv, _⟩ | ⟨g', o', cap, cur, hv, hb, hg, hnc, hcm, hs, ht⟩
  · cases hv
  · injection hv with h1 h2 h3
    injection h1 with h1
    injection h1 with h1 h4
    subst h1; subst h4; subst h3
    refine ⟨⟨by rw [sndsC_len, List.length_drop]; omega, .inr ⟨g, o + 4, c - 1, cur, rfl, hb, hg, by omega, by omega, by omega, ?_⟩⟩, fun e => ⟨by rw [sndsC_len, List.length_drop]; omega, .inr ⟨g, o, 0, cur, rfl, hb, hg, by omega, by omega, by omega, ?_⟩⟩⟩
    · rw [← sndsC_drop, ← ht, List.drop_take, List.drop_drop]
      congr 1
      omega
    · have e2 : l.drop 1 = [] := List.drop_of_length_le (by omega)
      rw [e2]
      simp [sndsC]
def NewOr (v v' : Value) (w : World) : Prop := ∀ k, v'.ownBlock = some k → v.ownBlock = some k ∨ w.heap.size ≤ k
def MAckPost (O : Nat) (v : Value) (r : Int × OutS) (w : World) (e : Ending) (w' : World) : Prop :=
  e = .returned (.int .i64 r.1) ∧ ∃ v', MoAt w' O r.2 v' ∧ Only (· = O) w w' ∧ NewOr v v' w
set_option maxRecDepth 100000 in
set_option maxHeartbeats 2000000 in
theorem ack_mo (O : Nat) (S : OutS) (v : Value) (n : Int) (w : World) (h : MoAt w O S v) (ha : S.acked ≤ 2000000000000) (hl : S.l.length ≤ 5000) : Calls Tryd.prog 29 #[.pointer (some ⟨O, 0, none⟩), .int .i64 n] w (MAckPost O v (ackO S n) w) := by
  have HO := Lib.hid h
  obtain ⟨L, HL⟩ : ∃ L, Hid (S.last = L) := ⟨_, Lib.hid rfl⟩
  have HLC : Hid (Calls Tryd.prog 27 #[.pointer (some ⟨O, 0, none⟩)] w fun e w'' => e = .returned (.int .i64 (L : Int)) ∧ w'' = w.drew) := Lib.hid (by
    rw [← HL.out]; exact last_mo O S v w h ha hl)
  have hLa : S.acked ≤ L := by rw [← HL.out]; unfold OutS.last; omega
  clear h
  by_cases c2 : (L : Int) < n
  · have HE : Hid (ackO S n = (30, S)) := Lib.hid (by unfold ackO; rw [if_neg (by omega), if_pos (by rw [HL.out]; exact c2)])
    rw [HE.out]
    go_enter Tryd.func29, Tryd.ntmps29
    go_wp2_with fail
    refine (HLC.out).mono ?_
    rintro e w' ⟨rfl, rfl⟩
    go_wp2_with fail
    go_ret
    exact ⟨rfl, v, HO.out.same (Only.refl _ _).drew, (Only.refl _ _).drew, fun k e => .inl e⟩
  obtain ⟨d, hd⟩ : ∃ d : Nat, d = (n - S.acked).toNat := ⟨_, rfl⟩
  have HD := Lib.hid hd
  have hdl : d ≤ S.l.length := by
    have h1 := HL.out
    unfold OutS.last at h1
    omega
  have HDL := Lib.hid hdl
  have hna : d = 0 ∨ n = ((S.acked + d : Nat) : Int) := by omega
  have HNA := Lib.hid hna
  have HE : Hid (ackO S n = (0, ⟨S.acked + d, S.l.drop d⟩)) := Lib.hid (by
    unfold ackO
    by_cases c1 : n ≤ S.acked
    · rw [if_pos c1, show d = 0 by omega]; rfl
    · rw [if_neg c1, if_neg (by rw [HL.out]; exact c2), show n.toNat = S.acked + d by omega, show S.acked + d - S.acked = d by omega])
  have HND : Hid (∀ j : Nat, (((S.acked + j : Nat) : Int) < n) ↔ j < d) := Lib.hid (fun j => by omega)
  rw [HE.out]
  clear hd hdl hna
  go_enter Tryd.func29, Tryd.ntmps29
  go_wp2_with fail
  refine (HLC.out).mono ?_
  rintro e w' ⟨rfl, rfl⟩
  go_wp2_with fail
  go_loopg [] d (fun k wx => ∃ (j : Nat) (v' : Value), k + j = d ∧ Hid (MoAt wx O ⟨S.acked + j, S.l.drop j⟩ v') ∧ Hid (Only (· = O) w wx) ∧ Hid (NewOr v v' w))
  case atStart => exact ⟨0, v, by omega, Lib.hid (HO.out.same (Only.refl _ _).drew), Lib.hid (Only.refl _ _).drew, Lib.hid (fun k e => .inl e)⟩
  case round =>
    obtain ⟨j, v', hkj, HM, HON, HV⟩ := hrel
    obtain ⟨a, HA⟩ : ∃ a, Hid (S.acked + j = a) := ⟨_, Lib.hid rfl⟩
    rw [HA.out] at HM
    have k0 : wr.cell? ⟨O, 0, none⟩ = some (.int .i64 (a : Int)) := HM.out.blk.cell 0
    by_cases hj : j < d
    · have hlt : (a : Int) < n := by rw [← HA.out]; exact (HND.out j).2 hj
      obtain ⟨Nl, HNl⟩ : ∃ Nl, Hid ((S.l.drop j).length = Nl) := ⟨_, Lib.hid rfl⟩
      have hNl : 1 ≤ Nl := by rw [← HNl.out, List.length_drop]; have := HDL.out; omega
      have hrow := HM.out.row
      rw [show (⟨a, S.l.drop j⟩ : OutS).l = S.l.drop j from rfl, HNl.out] at hrow
      obtain ⟨g, o, c, rfl, _, hgl, hnc, _, _⟩ := hrow.cell (by omega)
      have HRC := Lib.hid (row_cut1 hrow hNl)
      have k1 : wr.cell? ⟨O, 1, none⟩ = some (.slice (some ⟨g, o, none⟩) Nl c) := HM.out.blk.cell 1
      have f0 : wr.frozen? ⟨O, 0, none⟩ = false := HM.out.blk.frozen 0
      have f1 : wr.frozen? ⟨O, 1, none⟩ = false := HM.out.blk.frozen 1
      have h1N : (1 : Int) ≤ (Nl : Int) := by omega
      have hNc : (Nl : Int) ≤ (c : Int) := by omega
      have h1c : (1 : Int) ≤ (c : Int) := by omega
      have ha9 : (a : Int) ≤ 3000000000000 := by have := HA.out; have := HDL.out; omega
      have ha0 : (0 : Int) ≤ (a : Int) := by omega
      have hw : IntKind.i64.wrap ((a : Int) + 1) = (a : Int) + 1 := by rw [IntKind.wrap_i64]; omega
      go_upto_region 5 with fail
      obtain ⟨W, HW⟩ : ∃ W : World, Hid (W = wr.setCell ⟨O, 0, none⟩ (.int .i64 ((a : Int) + 1))) := ⟨_, Lib.hid rfl⟩
      rw [← HW.out]
      have HWO : Hid (Only (· = O) wr W) := Lib.hid (by rw [HW.out]; exact (Only.refl (· = O) wr).setCell (p := ⟨O, 0, none⟩) (.inl rfl) _)
      have HWB : Hid (Blk W O 60 #[.int .i64 ((a : Int) + 1), .slice (some ⟨g, o, none⟩) Nl c]) := Lib.hid (by
        rw [HW.out]
        have := HM.out.blk.set_ 0 (.int .i64 ((a : Int) + 1))
        rw [show (⟨a, S.l.drop j⟩ : OutS).acked = a from rfl] at this
        exact this)
      have hgO : g ≠ O := fun e => HM.out.ne_ (by rw [← e]; rfl)
      have HGO := Lib.hid hgO
      have k1 : W.cell? ⟨O, 1, none⟩ = some (.slice (some ⟨g, o, none⟩) Nl c) := HWB.out.cell 1
      have f1 : W.frozen? ⟨O, 1, none⟩ = false := HWB.out.frozen 1
      have hOW : O < W.heap.size := HWB.out.lt
      have hgW : g < W.heap.size := Nat.lt_of_lt_of_le hgl HWO.out.size
      obtain ⟨i0, hi0, hz0, hz1, hz2⟩ := info_parts infoMoS
      have HEM : Hid ((W.alloc (.cells #[] 97)).ownsRow W.heap.size 97 4 (.slice (some ⟨W.heap.size, 0, none⟩) 0 0) 0 []) := Lib.hid ⟨rfl, .inr ⟨W.heap.size, 0, #[], rfl, Nat.le_refl _, Blk.new W _ _, Nat.le_refl _, by unfold maxLen; omega, rfl, rfl⟩⟩
      have HND1 : Hid ((S.l.drop j).drop 1 = S.l.drop (j + 1)) := Lib.hid (by rw [List.drop_drop])
      have HRK : Hid (∀ V, (V.ownBlock = some g) → RowAt wr 0 97 4 V (Nl - 1) (sndsC ((S.l.drop j).drop 1)) → RowAt (W.alloc (.cells #[] 97)) 0 97 4 V (Nl - 1) (sndsC (S.l.drop (j + 1)))) := Lib.hid (fun V hV hr => by
        rw [HND1.out] at hr
        exact hr.keep (HWO.out.alloc _) (fun g' e x => HGO.out (by rw [hV] at e; injection e with e; rw [e]; exact x)))
      have HUU := Lib.hid (oneCell_snd (S.l.drop (j + 1)))
      have HBY : Hid (0 + (Nl - 1) ≤ maxLen ∧ (0 + (Nl - 1)) * 40 ≤ 140737488355328 ∧ W.heap.size ≤ (W.alloc (.cells #[] 97)).heap.size) := Lib.hid (by
        have h1 := HNl.out
        rw [List.length_drop] at h1
        refine ⟨by unfold maxLen; omega, by omega, by simp⟩)
      have HFIN : Hid (∀ v2 w2, w2.ownsRow W.heap.size 97 4 v2 (Nl - 1) (sndsC (S.l.drop (j + 1))) → (W.alloc (.cells #[] 97)).grownBy w2 (some W.heap.size) → MoAt (w2.setCell ⟨O, 1, none⟩ v2) O ⟨S.acked + (j + 1), S.l.drop (j + 1)⟩ v2 ∧ Only (· = O) w (w2.setCell ⟨O, 1, none⟩ v2) ∧ NewOr v v2 w ∧ w2.cell? ⟨O, 1, none⟩ = some (.slice (some ⟨g, o, none⟩) Nl c) ∧ w2.frozen? ⟨O, 1, none⟩ = false) := Lib.hid (fun v2 w2 ho hg => by
        have hOW := HWB.out.lt
        have hb2 : Blk w2 O 60 #[.int .i64 ((a : Int) + 1), .slice (some ⟨g, o, none⟩) Nl c] := (hg.block O (by simp; omega) (fun e => by injection e with e; omega)).trans (((Only.refl Nobody W).alloc _).blk HWB.out (fun x => x))
        have hOO : Only (· = O) w (w2.setCell ⟨O, 1, none⟩ v2) := by
          refine ((HON.out.trans HWO.out).trans_more (F := (· = O)) ?_)
          refine Only.setCell (F := More (· = O) w) (p := ⟨O, 1, none⟩) ?_ (.inl (.inl rfl)) _
          exact ((Only.refl _ W).alloc _).trans (Only.of_grown hg (fun k e => .inr (by have := (HON.out.trans HWO.out).size; injection e with e; omega)))
        have hr2 : RowAt w2 0 97 4 v2 (Nl - 1) (sndsC (S.l.drop (j + 1))) := (RowAt.of_own ho).base_le (Nat.zero_le _)
        have hlen : (S.l.drop (j + 1)).length = Nl - 1 := by
          have h1 := HNl.out
          rw [List.length_drop] at h1 ⊢
          omega
        have hv2 : ∀ g', v2.ownBlock = some g' → W.heap.size ≤ g' := fun g' e => (ho.lt g' e).1
        refine ⟨⟨?_, ?_⟩, hOO, ?_, hb2.cell 1, hb2.frozen 1⟩
        · have h1 := hb2.set_ 1 v2
          have h2 : ((S.acked + (j + 1) : Nat) : Int) = (a : Int) + 1 := by have := HA.out; omega
          show Blk _ _ _ #[.int .i64 ((S.acked + (j + 1) : Nat) : Int), v2]
          rw [h2]
          exact h1
        · show RowAt _ _ _ _ _ (S.l.drop (j + 1)).length (sndsC (S.l.drop (j + 1)))
          rw [hlen]
          exact hr2.keep (F := (· = O)) ((Only.refl (· = O) w2).setCell (p := ⟨O, 1, none⟩) (.inl rfl) v2) (fun g' e x => by have := hv2 g' e; omega)
        · intro k e
          have h1 := hv2 k e
          exact .inr (Nat.le_trans (HON.out.trans HWO.out).size h1))
      clear hgO hrow k0 f0
      by_cases hc1 : c = 1
      · obtain rfl : Nl = 1 := by omega
        subst hc1
        have HR : Hid (Reads (W.alloc (.cells #[] 97)) (W.alloc (.cells #[] 97)).heap.size 4 (some ⟨g, o, none⟩) 0 (sndsC (S.l.drop (j + 1)))) := Lib.hid (HRK.out _ rfl (HRC.out.2 rfl)).reads
        go_wp2_with (at_builtin; refine wpList_append_any _ rfl (.tmp 23) (.tmp 28) _ rfl W.heap.size 97 i0 _ 4 40 Tryd.underlying58 hi0 hz0 hz1 hz2 rfl (by omega) (.slice (some ⟨W.heap.size, 0, none⟩) 0 0) 0 [] rfl HEM.out _ (some ⟨g, o, none⟩) 0 _ (sndsC (S.l.drop (j + 1))) rfl HR.out HUU.out HBY.out.1 HBY.out.2.1 HBY.out.2.2 ?_
                     intro v2 w2 hown2 hgr2 hat2
                     have hown3 : w2.ownsRow W.heap.size 97 4 v2 0 (sndsC (S.l.drop (j + 1))) := hown2
                     obtain ⟨A2, c2, rfl⟩ := own_form hown3
                     have HF2 := Lib.hid (HFIN.out _ w2 hown3 hgr2)
                     have z1 : w2.cell? ⟨O, 1, none⟩ = some (.slice (some ⟨g, o, none⟩) 1 1) := HF2.out.2.2.2.1
                     have z2 : w2.frozen? ⟨O, 1, none⟩ = false := HF2.out.2.2.2.2
                     clear hown2 hown3 hgr2 hat2)
        go_roundg (d - (j + 1))
        case measure => omega
        case rel => exact ⟨j + 1, _, by omega, Lib.hid HF2.out.1, Lib.hid HF2.out.2.1, Lib.hid HF2.out.2.2.1⟩
      · have hc1I : ¬ (c : Int) = 1 := by omega
        have HR : Hid (Reads (W.alloc (.cells #[] 97)) (W.alloc (.cells #[] 97)).heap.size 4 (some ⟨g, o + 4, none⟩) (Nl - 1) (sndsC (S.l.drop (j + 1)))) := Lib.hid (HRK.out _ rfl HRC.out.1).reads
        go_wp2_with (at_builtin; refine wpList_append_any _ rfl (.tmp 23) (.tmp 28) _ rfl W.heap.size 97 i0 _ 4 40 Tryd.underlying58 hi0 hz0 hz1 hz2 rfl (by omega) (.slice (some ⟨W.heap.size, 0, none⟩) 0 0) 0 [] rfl HEM.out _ (some ⟨g, o + 4, none⟩) (Nl - 1) _ (sndsC (S.l.drop (j + 1))) rfl HR.out HUU.out HBY.out.1 HBY.out.2.1 HBY.out.2.2 ?_
                     intro v2 w2 hown2 hgr2 hat2
                     have hown3 : w2.ownsRow W.heap.size 97 4 v2 (Nl - 1) (sndsC (S.l.drop (j + 1))) := by rw [Nat.zero_add] at hown2; exact hown2
                     obtain ⟨A2, c2, rfl⟩ := own_form hown3
                     have HF2 := Lib.hid (HFIN.out _ w2 hown3 hgr2)
                     have z1 : w2.cell? ⟨O, 1, none⟩ = some (.slice (some ⟨g, o, none⟩) Nl c) := HF2.out.2.2.2.1
                     have z2 : w2.frozen? ⟨O, 1, none⟩ = false := HF2.out.2.2.2.2
                     clear hown2 hown3 hgr2 hat2)
        go_roundg (d - (j + 1))
        case measure => omega
        case rel => exact ⟨j + 1, _, by omega, Lib.hid HF2.out.1, Lib.hid HF2.out.2.1, Lib.hid HF2.out.2.2.1⟩
    · have hlt : ¬ (a : Int) < n := by rw [← HA.out, HND.out j]; exact hj
      obtain rfl : j = d := by omega
      go_wp2_with fail
      go_ret
      refine ⟨rfl, v', ?_, HON.out, HV.out⟩
      rw [HA.out]
      exact HM.out
end Go.Proofs.YthmndclmecnpmaaDoor
