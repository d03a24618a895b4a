/- Exchange: the model's outbox in memory; contracts of its last, put (printed by gen_mo.py from XOxA). -/
import Derived.Test.YthmndclmecnpmaaDoorMoA
namespace Go.Proofs.YthmndclmecnpmaaDoor
open Go.RowKit
attribute [local go_sem ↓] Go.wp_at_zero Go.wp_at_succ

/-- An outbox in state S lies at block O, its items in the slice v. -/
structure MoAt (w : World) (O : Nat) (S : OutS) (v : Value) : Prop where
  blk : Blk w O 60 #[.int .i64 S.acked, v]
  row : RowAt w 0 97 4 v S.l.length (sndsC S.l)
theorem MoAt.ne_ {w : World} {O : Nat} {S : OutS} {v : Value} (h : MoAt w O S v) : v.ownBlock ≠ some O := by
  intro e
  rcases h.row.2 with ⟨rfl, _⟩ | ⟨g, o, cap, cur, rfl, _, hg, _⟩
  · cases e
  · simp only [Value.ownBlock, Option.some.injEq] at e
    subst e
    exact Blk.ne_ (t := 97) hg h.blk (by decide) rfl
theorem MoAt.keep {w w' : World} {O : Nat} {S : OutS} {v : Value} (h : MoAt w O S v) {F : Nat → Prop} (ho : Only F w w') (hF : ∀ k, OwnO O v k → ¬ F k) : MoAt w' O S v :=
  ⟨ho.blk h.blk (hF O (.inl rfl)), h.row.keep ho (fun g e => hF g (.inr e))⟩
theorem MoAt.same {w w' : World} {O : Nat} {S : OutS} {v : Value} (h : MoAt w O S v) (ho : Only Nobody w w') : MoAt w' O S v := h.keep ho (fun _ _ x => x)
theorem MoAt.lt {w : World} {O : Nat} {S : OutS} {v : Value} (h : MoAt w O S v) : ∀ k, OwnO O v k → k < w.heap.size := by
  rintro k (rfl | e)
  · exact h.blk.lt
  · exact (h.row.lt k e).2

set_option maxHeartbeats 1000000 in
theorem last_mo (O : Nat) (S : OutS) (v : Value) (w : World) (h : MoAt w O S v) (ha : S.acked ≤ 2000000000000) (hl : S.l.length ≤ 5000) : Calls Tryd.prog 27 #[.pointer (some ⟨O, 0, none⟩)] w fun e w' => e = .returned (.int .i64 (S.last : Int)) ∧ w' = w.drew := by
  have hc0 : w.cell? ⟨O, 0, none⟩ = some (.int .i64 S.acked) := h.blk.cell 0
  have hc1 : w.cell? ⟨O, 1, none⟩ = some v := h.blk.cell 1
  obtain ⟨A, c, rfl, _, _⟩ := h.row.form
  obtain ⟨N, HN⟩ : ∃ N, Hid (S.l.length = N) := ⟨_, Lib.hid rfl⟩
  rw [HN.out] at hc1 hl
  have HL : Hid (((S.acked : Int) + (N : Int)) = (S.last : Int)) := Lib.hid (by unfold OutS.last; rw [HN.out]; exact (Int.natCast_add _ _).symm)
  have hI1 : (S.acked : Int) ≤ 2000000000000 := by omega
  have hI2 : (N : Int) ≤ 5000 := by omega
  have hw1 : IntKind.i64.wrap ((S.acked : Int) + (N : Int)) = (S.acked : Int) + (N : Int) := by rw [IntKind.wrap_i64]; omega
  clear h
  go_enter Tryd.func27, Tryd.ntmps27
  go_wp2_with fail
  go_region_held3 (fun w' => w'.cell? ⟨O, 0, none⟩ = some (.int .i64 S.acked) ∧ w'.cell? ⟨O, 1, none⟩ = some (.slice A N c)) (exact ⟨hc0, hc1⟩) (fail)
  go_wp2_with fail
  go_ret
  exact ⟨ret_int (by first | exact HL.out | (have := HL.out; omega)), rfl⟩

theorem infoMoS : (Tryd.prog.info? 97).map (fun i => (i.zero, i.size, i.bytes)) = some (some (.agg #[.int .i64 0, .string ByteArray.empty, .bool false, .int .i64 0]), 4, 40) := by kernel_rfl
def MPutPost (O : Nat) (v : Value) (r : Int × OutS) (w : World) (e : Ending) (w' : World) : Prop :=
  e = .returned (.int .i64 r.1) ∧ ∃ v', MoAt w' O r.2 v' ∧ Only (OwnO O v) w w' ∧ (v'.ownBlock = v.ownBlock ∨ ∃ g, v'.ownBlock = some g ∧ w.heap.size ≤ g)
theorem mput_end {w w1 : World} {O : Nat} {S : OutS} {v v' : Value} {x : It} (h : MoAt w O S v) (hrow : RowAt w1 0 97 4 v' (S.l.length + 1) (sndsC S.l ++ (Snd.mk x false 0).cells)) (hg : w.grownBy w1 v.ownBlock) (hat : v'.ownBlock = v.ownBlock ∨ ∃ g, v'.ownBlock = some g ∧ w.heap.size ≤ g) :
    MoAt (w1.setCell ⟨O, 1, none⟩ v') O { S with l := S.l ++ [Snd.mk x false 0] } v' ∧ Only (OwnO O v) w (w1.setCell ⟨O, 1, none⟩ v') := by
  have hb1 : Blk w1 O 60 #[.int .i64 S.acked, v] := (hg.block O h.blk.lt (fun e => h.ne_ e.symm)).trans h.blk
  have hO : Only (OwnO O v) w (w1.setCell ⟨O, 1, none⟩ v') := (Only.of_grown hg (fun k e => .inr e)).setCell (p := ⟨O, 1, none⟩) (.inl (.inl rfl)) v'
  refine ⟨⟨hb1.set_ 1 v', ?_⟩, hO⟩
  have hl : sndsC (S.l ++ [Snd.mk x false 0]) = sndsC S.l ++ (Snd.mk x false 0).cells := by rw [sndsC_append]; simp [sndsC]
  show RowAt _ _ _ _ _ (S.l ++ [Snd.mk x false 0]).length (sndsC (S.l ++ [Snd.mk x false 0]))
  rw [hl, List.length_append, List.length_singleton]
  refine hrow.keep (F := (· = O)) ((Only.refl (· = O) w1).setCell (p := ⟨O, 1, none⟩) (.inl rfl) v') (fun g e hgo => ?_)
  subst hgo
  rcases hrow.2 with ⟨rfl, _⟩ | ⟨g', o, cap, cur, rfl, _, hg', _⟩
  · cases e
  · simp only [Value.ownBlock, Option.some.injEq] at e
    subst e
    exact Blk.ne_ (t := 97) hg' hb1 (by decide) rfl
set_option maxRecDepth 100000 in
set_option maxHeartbeats 2000000 in
theorem put_mo (O : Nat) (S : OutS) (v : Value) (x : It) (w : World) (h : MoAt w O S v) (ha : S.acked ≤ 2000000000000) (hl : S.l.length ≤ 5000) : Calls Tryd.prog 28 #[.pointer (some ⟨O, 0, none⟩), .agg #[.int .i64 x.n, .string x.t]] w (MPutPost O v (putO S x) w) := by
  have HO := Lib.hid h
  have HX := Lib.hid (itb w x)
  obtain ⟨x0, x1⟩ := HX.out _ (Only.refl _ _)
  have hoA : MoAt (w.alloc (.cells #[.int .i64 x.n, .string x.t] 36)) O S v := h.same ((Only.refl _ _).alloc _)
  have HA := Lib.hid hoA
  have HN : Hid (∀ r : Int, Calls Tryd.prog 28 #[.pointer (some ⟨O, 0, none⟩), .agg #[.int .i64 x.n, .string x.t]] w (fun e w' => e = .returned (.int .i64 r) ∧ Only Nobody w w') → putO S x = (r, S) → Calls Tryd.prog 28 #[.pointer (some ⟨O, 0, none⟩), .agg #[.int .i64 x.n, .string x.t]] w (MPutPost O v (putO S x) w)) := Lib.hid fun r hc e => by
    rw [e]
    exact hc.mono fun e w' ⟨h1, h2⟩ => ⟨h1, v, HO.out.same h2, h2.mono (fun _ x => x.elim), .inl rfl⟩
  obtain ⟨L, HL⟩ : ∃ L, Hid (S.last = L) := ⟨_, Lib.hid rfl⟩
  have hL : L ≤ 2000000005000 := by rw [← HL.out]; unfold OutS.last; omega
  have hLI : (L : Int) ≤ 2000000005000 := by omega
  have hL0 : (0 : Int) ≤ (L : Int) := by omega
  have hw1 : IntKind.i64.wrap ((L : Int) + 1) = (L : Int) + 1 := by rw [IntKind.wrap_i64]; omega
  have HLC : Hid (∀ w', MoAt w' O S v → Calls Tryd.prog 27 #[.pointer (some ⟨O, 0, none⟩)] w' fun e w'' => e = .returned (.int .i64 (L : Int)) ∧ w'' = w'.drew) := Lib.hid fun w' ho => by
    rw [← HL.out]; exact last_mo O S v w' ho ha hl
  have HPO : Hid (putO S x = if x.n ≠ (L : Int) + 1 then (30, S) else if 1099511627776 < x.n then (2, S) else if 65536 < x.t.size then (5, S) else if 4096 ≤ S.l.length then (9, S) else (0, { S with l := S.l ++ [Snd.mk x false 0] })) := Lib.hid (by unfold putO; rw [HL.out])
  have HAD : Hid (MoAt (w.alloc (.cells #[.int .i64 x.n, .string x.t] 36)).drew O S v) := Lib.hid (HA.out.same (Only.refl _ _).drew)
  clear h hoA
  by_cases c1 : x.n = (L : Int) + 1
  · have c1b : (x.n != (L : Int) + 1) = false := by simpa using c1
    have HC1 := Lib.hid c1
    have HP1 : Hid (putO S x = if 1099511627776 < x.n then (2, S) else if 65536 < x.t.size then (5, S) else if 4096 ≤ S.l.length then (9, S) else (0, { S with l := S.l ++ [Snd.mk x false 0] })) := Lib.hid (by rw [HPO.out, if_neg (fun z => z c1)])
    clear c1
    by_cases c2 : 1099511627776 < x.n
    · refine HN.out 2 ?_ (by rw [HP1.out, if_pos c2])
      go_enter Tryd.func28, Tryd.ntmps28
      go_wp2_with fail
      go_region_held3 (fun w' => w'.cell? ⟨w.heap.size, 0, none⟩ = some (.int .i64 x.n)) (exact (HX.out _ (by repeat (first | exact Only.refl _ _ | refine Only.drew ?_ | refine Only.alloc ?_ _))).1) (first
        | (go_at_call 27; refine (HLC.out _ HAD.out).mono ?_; rintro e w' ⟨rfl, rfl⟩))
      obtain ⟨y0, y1⟩ := HX.out (w.alloc (.cells #[.int .i64 x.n, .string x.t] 36)).drew.drew (by repeat (first | exact Only.refl _ _ | refine Only.drew ?_ | refine Only.alloc ?_ _))
      go_wp2_with fail
      go_ret
      exact ⟨rfl, (by repeat (first | exact Only.refl _ _ | refine Only.drew ?_ | refine Only.alloc ?_ _))⟩
    by_cases c3 : 65536 < x.t.size
    · refine HN.out 5 ?_ (by rw [HP1.out, if_neg c2, if_pos c3])
      have c3I : (65536 : Int) < (x.t.size : Int) := by omega
      clear c3
      go_enter Tryd.func28, Tryd.ntmps28
      go_wp2_with fail
      go_region_held3 (fun w' => w'.cell? ⟨w.heap.size, 0, none⟩ = some (.int .i64 x.n)) (exact (HX.out _ (by repeat (first | exact Only.refl _ _ | refine Only.drew ?_ | refine Only.alloc ?_ _))).1) (first
        | (go_at_call 27; refine (HLC.out _ HAD.out).mono ?_; rintro e w' ⟨rfl, rfl⟩))
      obtain ⟨y0, y1⟩ := HX.out (w.alloc (.cells #[.int .i64 x.n, .string x.t] 36)).drew.drew (by repeat (first | exact Only.refl _ _ | refine Only.drew ?_ | refine Only.alloc ?_ _))
      go_wp2_with fail
      go_ret
      exact ⟨rfl, (by repeat (first | exact Only.refl _ _ | refine Only.drew ?_ | refine Only.alloc ?_ _))⟩
    have c3I : ¬ (65536 : Int) < (x.t.size : Int) := by omega
    obtain ⟨A, c, rfl, hnc, hcm⟩ := HO.out.row.form
    obtain ⟨N, HNN⟩ : ∃ N, Hid (S.l.length = N) := ⟨_, Lib.hid rfl⟩
    have HBW : Hid (∀ w', Only Nobody (w.alloc (.cells #[.int .i64 x.n, .string x.t] 36)) w' → w'.cell? ⟨O, 1, none⟩ = some (.slice A N c)) := Lib.hid fun w' ho => by
      have := (HA.out.same ho).blk.cell 1
      rw [HNN.out] at this
      exact this
    rw [HNN.out] at hl hnc
    by_cases c4 : 4096 ≤ N
    · refine HN.out 9 ?_ (by rw [HP1.out, if_neg c2, if_neg c3, if_pos (by rw [HNN.out]; exact c4)])
      have c4I : (4096 : Int) ≤ (N : Int) := by omega
      have c4J : decide (4096 ≤ N) = true := by simpa using c4
      clear c3 c4
      go_enter Tryd.func28, Tryd.ntmps28
      go_wp2_with fail
      go_region_held3 (fun w' => w'.cell? ⟨w.heap.size, 0, none⟩ = some (.int .i64 x.n)) (exact (HX.out _ (by repeat (first | exact Only.refl _ _ | refine Only.drew ?_ | refine Only.alloc ?_ _))).1) (first
        | (go_at_call 27; refine (HLC.out _ HAD.out).mono ?_; rintro e w' ⟨rfl, rfl⟩))
      obtain ⟨y0, y1⟩ := HX.out (w.alloc (.cells #[.int .i64 x.n, .string x.t] 36)).drew.drew (by repeat (first | exact Only.refl _ _ | refine Only.drew ?_ | refine Only.alloc ?_ _))
      have y2 := HBW.out (w.alloc (.cells #[.int .i64 x.n, .string x.t] 36)).drew.drew (by repeat (first | exact Only.refl _ _ | refine Only.drew ?_ | refine Only.alloc ?_ _))
      go_wp2_with fail
      go_ret
      exact ⟨rfl, (by repeat (first | exact Only.refl _ _ | refine Only.drew ?_ | refine Only.alloc ?_ _))⟩
    have c4I : ¬ (4096 : Int) ≤ (N : Int) := by omega
    have HPE : Hid (putO S x = (0, { S with l := S.l ++ [Snd.mk x false 0] })) := Lib.hid (by rw [HP1.out, if_neg c2, if_neg c3, if_neg (by rw [HNN.out]; exact c4)])
    rw [HPE.out]
    clear c3 c4
    obtain ⟨i0, hi0, hz0, hz1, hz2⟩ := info_parts infoMoS
    go_enter Tryd.func28, Tryd.ntmps28
    go_wp2_with fail
    go_region_held3 (fun w' => w'.cell? ⟨w.heap.size, 0, none⟩ = some (.int .i64 x.n)) (exact (HX.out _ (by repeat (first | exact Only.refl _ _ | refine Only.drew ?_ | refine Only.alloc ?_ _))).1) (first
      | (go_at_call 27; refine (HLC.out _ HAD.out).mono ?_; rintro e w' ⟨rfl, rfl⟩))
    obtain ⟨W, HW⟩ : ∃ W : World, Hid (W = (w.alloc (.cells #[.int .i64 x.n, .string x.t] 36)).drew.drew) := ⟨_, Lib.hid rfl⟩
    rw [← HW.out]
    have HOW : Hid (Only Nobody (w.alloc (.cells #[.int .i64 x.n, .string x.t] 36)) W) := Lib.hid (by rw [HW.out]; exact (by repeat (first | exact Only.refl _ _ | refine Only.drew ?_ | refine Only.alloc ?_ _)))
    have HOU : Hid (MoAt W O S (.slice A S.l.length c)) := Lib.hid (HA.out.same HOW.out)
    obtain ⟨y0, y1⟩ := HX.out W HOW.out
    have y2 := HBW.out W HOW.out
    have f2 : W.frozen? ⟨O, 1, none⟩ = false := HOU.out.blk.frozen 1
    have HR : Hid (Reads (W.alloc (.cells #[.int .i64 x.n, .string x.t, .bool false, .int .i64 0] 97)).drew (W.heap.size + 1) 4 (some ⟨W.heap.size, 0, none⟩) 1 (Snd.mk x false 0).cells) := Lib.hid (reads_alloc W 97 #[.int .i64 x.n, .string x.t, .bool false, .int .i64 0] 4 1 rfl)
    have HRW : Hid (RowAt (W.alloc (.cells #[.int .i64 x.n, .string x.t, .bool false, .int .i64 0] 97)).drew 0 97 4 (.slice A N c) N (sndsC S.l)) := Lib.hid (by
      have := HOU.out.row
      rw [HNN.out] at this
      exact this.keep (F := Nobody) (by repeat (first | exact Only.refl _ _ | refine Only.drew ?_ | refine Only.alloc ?_ _)) (fun _ _ x => x))
    have hOW := HOU.out.blk.lt
    clear x0 x1
    have HNE : Hid ((Value.slice A N c).ownBlock ≠ some O) := Lib.hid (by have := HO.out.ne_; rw [HNN.out] at this; exact this)
    have HOA2 : Hid (Only Nobody w W) := Lib.hid (((Only.refl Nobody w).alloc _).trans HOW.out)
    go_upto_region 9 with fail
    go_cut [] (fun wx => ∃ v', MoAt wx O { S with l := S.l ++ [Snd.mk x false 0] } v' ∧ Only (OwnO O (.slice A N c)) W wx ∧ (v'.ownBlock = (Value.slice A N c).ownBlock ∨ ∃ g, v'.ownBlock = some g ∧ W.heap.size ≤ g))
    case first =>
      go_region_law (refine step_append_at _ rfl (.tmp 32) (.tmp 35) 58 rfl 0 97 i0 _ 4 40 Tryd.underlying58 hi0 hz0 hz1 hz2 rfl (by omega) (.slice A N c) N (sndsC S.l) (by simp [Act.eval]) HRW.out _ (some ⟨W.heap.size, 0, none⟩) 1 1 (Snd.mk x false 0).cells (by simp [Act.eval]) HR.out (fun u hu => oneCell_snd [Snd.mk x false 0] u (by simpa [sndsC] using hu)) (by unfold maxLen; omega) (by omega) (by omega) ?_; intro v' w1 hown' hgrow hat; obtain ⟨A', c', rfl, _, _⟩ := hown'.form; have HO' := Lib.hid hown'; have HAT := Lib.hid hat; have HG := Lib.hid hgrow; have hbO : Blk w1 O 60 #[.int .i64 S.acked, .slice A S.l.length c] := (hgrow.block O (by simp; omega) (fun e => HNE.out e.symm)).trans ((HOU.out.same ((Only.refl Nobody W).alloc _).drew).blk); have k1 : w1.cell? ⟨O, 1, none⟩ = some (.slice A S.l.length c) := hbO.cell 1; have g1 : w1.frozen? ⟨O, 1, none⟩ = false := hbO.frozen 1; clear hown' hat hgrow hbO)
      all_goals
        go_wp2_with fail
        go_meet
        refine ⟨.slice A' (N + 1) c', ?_⟩
        have hOE : MoAt (W.alloc (.cells #[.int .i64 x.n, .string x.t, .bool false, .int .i64 0] 97)).drew O S (.slice A S.l.length c) := HOU.out.same (by repeat (first | exact Only.refl _ _ | refine Only.drew ?_ | refine Only.alloc ?_ _))
        have hE := mput_end (x := x) hOE (by have := HO'.out; rw [HNN.out]; exact this) (by rw [HNN.out]; exact HG.out) (by rw [HNN.out]; exact HAT.out.elim .inl (fun e => .inr ⟨_, e, Nat.le_refl _⟩))
        refine ⟨hE.1, ?_, HAT.out.elim .inl (fun e => .inr ⟨_, e, by simp⟩)⟩
        have h2 := hE.2
        rw [HNN.out] at h2
        exact (((Only.refl _ W).alloc _).drew).trans h2
    case rest =>
      obtain ⟨v', h1, h2, h3⟩ := hcut
      have H1 := Lib.hid h1
      have H2 := Lib.hid h2
      have H3 := Lib.hid h3
      clear h1 h2 h3
      go_wp2_with fail
      go_ret
      refine ⟨rfl, v', H1.out, ?_, ?_⟩
      · rw [HNN.out]
        exact (HOA2.out.mono (fun _ x => x.elim)).trans H2.out
      · rw [HNN.out]
        exact H3.out.elim .inl (fun ⟨g, e, hg⟩ => .inr ⟨g, e, Nat.le_trans HOA2.out.size hg⟩)
  · refine HN.out 30 ?_ (by rw [HPO.out, if_pos c1])
    have c1b : (x.n != (L : Int) + 1) = true := by simpa using c1
    clear c1
    go_enter Tryd.func28, Tryd.ntmps28
    go_wp2_with fail
    go_region_held3 (fun w' => w'.cell? ⟨w.heap.size, 0, none⟩ = some (.int .i64 x.n)) (exact (HX.out _ (by repeat (first | exact Only.refl _ _ | refine Only.drew ?_ | refine Only.alloc ?_ _))).1) (first
      | (go_at_call 27; refine (HLC.out _ HAD.out).mono ?_; rintro e w' ⟨rfl, rfl⟩))
    go_wp2_with fail
    go_ret
    exact ⟨rfl, by repeat (first | exact Only.refl _ _ | refine Only.drew ?_ | refine Only.alloc ?_ _)⟩
end Go.Proofs.YthmndclmecnpmaaDoor
