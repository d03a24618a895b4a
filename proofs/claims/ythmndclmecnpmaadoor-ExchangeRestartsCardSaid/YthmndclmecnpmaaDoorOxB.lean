/- Exchange: contracts of the outbox's Ack, passed, Due, Pending. -/
import Derived.Test.YthmndclmecnpmaaDoorOxA
namespace Go.Proofs.YthmndclmecnpmaaDoor
open Go.RowKit
attribute [local go_sem ↓] Go.wp_at_zero Go.wp_at_succ

/-! Ack. -/
def ackO (S : OutS) (n : Int) : Int × OutS :=
  if n ≤ S.acked then (0, S) else if (S.last : Int) < n then (30, S) else (0, ⟨n.toNat, S.l.drop (n.toNat - S.acked)⟩)
theorem row_cut {w : World} {g o N c d : Nat} {l : List Snd} (h : RowAt w 0 93 4 (.slice (some ⟨g, o, none⟩) N c) N (sndsC l)) (hd : d ≤ N) : RowAt w 0 93 4 (.slice (some ⟨g, o + d * 4, none⟩) (N - d) (c - d)) (N - d) (sndsC (l.drop d)) ∧ (N = d → RowAt w 0 93 4 (.slice (some ⟨g, o, none⟩) 0 0) 0 (sndsC (l.drop d))) := by
  have hlen := h.1
  rw [sndsC_len] at hlen
  rcases h.2 with ⟨hv, _⟩ | ⟨g', o', cap, cur, hv, hb, hg, hnc, hcm, hs, ht⟩
  · cases hv
  · injection hv with h1 h2 h3
    injection h1 with h1
    injection h1 with h1 h4
    subst h1; subst h4; subst h3
    refine ⟨⟨by rw [sndsC_len, List.length_drop]; omega, .inr ⟨g, o + d * 4, c - d, cur, rfl, hb, hg, by omega, by omega, by omega, ?_⟩⟩, fun e => ⟨by rw [sndsC_len, List.length_drop]; omega, .inr ⟨g, o, 0, cur, rfl, hb, hg, by omega, by omega, by omega, ?_⟩⟩⟩
    · rw [← sndsC_drop, ← ht, List.drop_take, List.drop_drop]
      congr 1
      omega
    · have e2 : l.drop d = [] := List.drop_of_length_le (by omega)
      rw [e2]
      simp [sndsC]
def AckPost (O : Nat) (v : Value) (r : Int × OutS) (w : World) (e : Ending) (w' : World) : Prop :=
  e = .returned (.int .i64 r.1) ∧ ∃ v', OutAt w' O r.2 v' ∧ Only (· = O) w w' ∧ (v'.ownBlock = v.ownBlock)
set_option maxRecDepth 100000 in
set_option maxHeartbeats 2000000 in
theorem ack_ox (O : Nat) (S : OutS) (v : Value) (n : Int) (w : World) (h : OutAt w O S v) (ha : S.acked ≤ 2000000000000) (hl : S.l.length ≤ 5000) : Calls Tryd.prog 26 #[.pointer (some ⟨O, 0, none⟩), .int .i64 n] w (AckPost O v (ackO S n) w) := by
  have HO := Lib.hid h
  have c0 : w.cell? ⟨O, 0, none⟩ = some (.int .i64 S.acked) := h.blk.cell 0
  have hI : (S.acked : Int) ≤ 2000000000000 := by omega
  have HN : Hid (∀ r : Int, Calls Tryd.prog 26 #[.pointer (some ⟨O, 0, none⟩), .int .i64 n] w (fun e w' => e = .returned (.int .i64 r) ∧ Only Nobody w w') → ackO S n = (r, S) → Calls Tryd.prog 26 #[.pointer (some ⟨O, 0, none⟩), .int .i64 n] w (AckPost O v (ackO S n) w)) := Lib.hid fun r hc e => by
    rw [e]
    exact hc.mono fun e w' ⟨h1, h2⟩ => ⟨h1, v, HO.out.same h2, h2.mono (fun _ x => x.elim), rfl⟩
  by_cases c1 : n ≤ S.acked
  · refine HN.out 0 ?_ (by unfold ackO; rw [if_pos c1])
    clear h
    go_enter Tryd.func26, Tryd.ntmps26
    go_wp2_with fail
    go_ret
    exact ⟨rfl, Only.refl _ _⟩
  obtain ⟨L, HL⟩ : ∃ L, Hid (S.last = L) := ⟨_, Lib.hid rfl⟩
  have HLC : Hid (Calls Tryd.prog 33 #[.pointer (some ⟨O, 0, none⟩)] w fun e w'' => e = .returned (.int .i64 (L : Int)) ∧ w'' = w.drew) := Lib.hid (by
    rw [← HL.out]; exact last_ox O S v w h ha hl)
  by_cases c2 : (L : Int) < n
  · refine HN.out 30 ?_ (by unfold ackO; rw [if_neg c1, if_pos (by rw [HL.out]; exact c2)])
    clear h
    go_enter Tryd.func26, Tryd.ntmps26
    go_wp2_with fail
    refine (HLC.out).mono ?_
    rintro e w' ⟨rfl, rfl⟩
    go_wp2_with fail
    go_ret
    exact ⟨rfl, (Only.refl _ _).drew⟩
  obtain ⟨m, rfl⟩ : ∃ m : Nat, n = (m : Int) := ⟨n.toNat, by omega⟩
  obtain ⟨d, hd⟩ : ∃ d, m = S.acked + d := ⟨m - S.acked, by omega⟩
  obtain ⟨N, HNN⟩ : ∃ N, Hid (S.l.length = N) := ⟨_, Lib.hid rfl⟩
  have hLN : L = S.acked + N := by rw [← HL.out]; unfold OutS.last; rw [HNN.out]
  have hdN : d ≤ N := by omega
  have hd1 : 1 ≤ d := by omega
  have HD := Lib.hid hd
  obtain ⟨g, o, c, rfl, _, hgl, hnc, _, _⟩ := h.row.cell (by rw [HNN.out]; omega)
  have k1 : w.cell? ⟨O, 1, none⟩ = some (.slice (some ⟨g, o, none⟩) N c) := by rw [← HNN.out]; exact h.blk.cell 1
  have f1 : w.frozen? ⟨O, 1, none⟩ = false := h.blk.frozen 1
  have f0 : w.frozen? ⟨O, 0, none⟩ = false := h.blk.frozen 0
  rw [HNN.out] at hl hnc
  have HAE : Hid (ackO S (m : Int) = (0, ⟨m, S.l.drop d⟩)) := Lib.hid (by
    unfold ackO
    rw [if_neg c1, if_neg (by rw [HL.out]; exact c2), Int.toNat_natCast, show m - S.acked = d by have := HD.out; omega])
  rw [HAE.out]
  have hsub : (m : Int) - (S.acked : Int) = (d : Int) := by omega
  have hdI : (d : Int) ≤ (N : Int) := by omega
  have hd0 : (0 : Int) ≤ (d : Int) := by omega
  have hNI : (N : Int) ≤ (c : Int) := by omega
  have hdc : (d : Int) ≤ (c : Int) := by omega
  have hws : IntKind.i64.wrap ((m : Int) - (S.acked : Int)) = (d : Int) := by rw [IntKind.wrap_i64]; omega
  have c2' : decide (L < m) = false := by simp; omega
  have c2'' : decide ((L : Int) < (m : Int)) = false := by simp; omega
  have HRC := Lib.hid (row_cut (by have := HO.out.row; rw [HNN.out] at this; exact this) hdN)
  have HNE : Hid (g ≠ O) := Lib.hid (fun e => HO.out.ne_ (by rw [← e]; rfl))
  have HEND : Hid (∀ V wc, V.ownBlock = some g → RowAt w 0 93 4 V (N - d) (sndsC (S.l.drop d)) → Only (· = O) w wc → Blk wc O 91 #[.int .i64 S.acked, V] → OutAt (wc.setCell ⟨O, 0, none⟩ (.int .i64 (m : Int))) O ⟨m, S.l.drop d⟩ V) := Lib.hid fun V wc hV hr hoo hb => by
    refine ⟨hb.set_ 0 (.int .i64 (m : Int)), ?_⟩
    show RowAt _ _ _ _ _ (S.l.drop d).length (sndsC (S.l.drop d))
    rw [List.length_drop, HNN.out]
    exact hr.keep (hoo.setCell (p := ⟨O, 0, none⟩) (.inl rfl) _) (fun g' e hgo => HNE.out (by rw [hV] at e; injection e with e; rw [e, hgo]))
  clear h hd hLN c2
  by_cases hcd : c = d
  · obtain rfl : N = d := by omega
    obtain rfl : c = N := hcd
    go_enter Tryd.func26, Tryd.ntmps26
    go_wp2_with fail
    refine (HLC.out).mono ?_
    rintro e w' ⟨rfl, rfl⟩
    go_upto_region 7 with fail
    go_cut [] (fun wx => Blk wx O 91 #[.int .i64 S.acked, .slice (some ⟨g, o, none⟩) 0 0] ∧ Only (· = O) w wx)
    case first =>
      go_region
      all_goals
        go_wp2_with fail
        go_meet
        have hoX := ((Only.refl (· = O) w).setCell (p := ⟨O, 1, none⟩) (.inl rfl) (.slice (some ⟨g, o, none⟩) 0 0))
        first
        | exact ⟨HO.out.blk.set_ 1 (.slice (some ⟨g, o, none⟩) 0 0), hoX.drew.drew⟩
        | exact ⟨HO.out.blk.set_ 1 (.slice (some ⟨g, o, none⟩) 0 0), hoX.drew⟩
    case rest =>
      obtain ⟨h1, h2⟩ := hcut
      have H1 := Lib.hid h1
      have H2 := Lib.hid h2
      have k0 : wc.cell? ⟨O, 0, none⟩ = some (.int .i64 S.acked) := h1.cell 0
      have g0 : wc.frozen? ⟨O, 0, none⟩ = false := h1.frozen 0
      clear h1 h2 c0 k1 f1 f0
      go_wp2_with fail
      go_ret
      exact ⟨rfl, .slice (some ⟨g, o, none⟩) 0 0, HEND.out (.slice (some ⟨g, o, none⟩) 0 0) wc rfl (by have := HRC.out.2 (by trivial); rw [Nat.sub_self]; exact this) H2.out H1.out, H2.out.setCell (p := ⟨O, 0, none⟩) (.inl rfl) _, rfl⟩
  · have hcd1 : ¬ (c : Int) = (d : Int) := by omega
    go_enter Tryd.func26, Tryd.ntmps26
    go_wp2_with fail
    refine (HLC.out).mono ?_
    rintro e w' ⟨rfl, rfl⟩
    go_upto_region 7 with fail
    go_cut [] (fun wx => Blk wx O 91 #[.int .i64 S.acked, .slice (some ⟨g, o + d * 4, none⟩) (N - d) (c - d)] ∧ Only (· = O) w wx)
    case first =>
      go_region
      all_goals
        go_wp2_with fail
        go_meet
        have hoX := ((Only.refl (· = O) w).setCell (p := ⟨O, 1, none⟩) (.inl rfl) (.slice (some ⟨g, o + d * 4, none⟩) (N - d) (c - d)))
        first
        | exact ⟨HO.out.blk.set_ 1 (.slice (some ⟨g, o + d * 4, none⟩) (N - d) (c - d)), hoX.drew.drew⟩
        | exact ⟨HO.out.blk.set_ 1 (.slice (some ⟨g, o + d * 4, none⟩) (N - d) (c - d)), hoX.drew⟩
    case rest =>
      obtain ⟨h1, h2⟩ := hcut
      have H1 := Lib.hid h1
      have H2 := Lib.hid h2
      have k0 : wc.cell? ⟨O, 0, none⟩ = some (.int .i64 S.acked) := h1.cell 0
      have g0 : wc.frozen? ⟨O, 0, none⟩ = false := h1.frozen 0
      clear h1 h2 c0 k1 f1 f0
      go_wp2_with fail
      go_ret
      exact ⟨rfl, .slice (some ⟨g, o + d * 4, none⟩) (N - d) (c - d), HEND.out (.slice (some ⟨g, o + d * 4, none⟩) (N - d) (c - d)) wc rfl (HRC.out.1) H2.out H1.out, H2.out.setCell (p := ⟨O, 0, none⟩) (.inl rfl) _, rfl⟩

end Go.Proofs.YthmndclmecnpmaaDoor
