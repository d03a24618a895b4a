/- Exchange: contract of the model's inbox's receive. -/
import Derived.Test.YthmndclmecnpmaaDoorMiA
import Derived.Deep.RegionLaw
import Derived.BigQuiet
namespace Go.Proofs.YthmndclmecnpmaaDoor
open Go.RowKit
attribute [local go_sem ↓] Go.wp_at_zero Go.wp_at_succ

def MRecvPost (M : Nat) (v : Value) (r : Int × MIn) (w : World) (e : Ending) (w' : World) : Prop :=
  e = .returned (.int .i64 r.1) ∧ ∃ v', MiAt w' M r.2 v' ∧ Only (OwnO M v) w w' ∧ NewOr v v' w
theorem mi_end {w w1 : World} {M : Nat} {m : MIn} {v v' : Value} {l' : List It} (h : MiAt w M m v) (hrow : w1.ownsRow 0 36 2 v' l'.length (itsC l')) (hg : Only (fun k => v.ownBlock = some k) w w1) (hn : NewOr v v' w) :
    MiAt (w1.setCell ⟨M, 1, none⟩ v') M { m with l := l' } v' ∧ Only (OwnO M v) w (w1.setCell ⟨M, 1, none⟩ v') := by
  have hb1 : Blk w1 M 31 #[.int .i64 m.taken, v] := hg.blk h.blk (fun e => h.ne_ e)
  have hO : Only (OwnO M v) w (w1.setCell ⟨M, 1, none⟩ v') := (hg.mono (fun k e => .inr e)).setCell (p := ⟨M, 1, none⟩) (.inl (.inl rfl)) v'
  refine ⟨⟨hb1.set_ 1 v', ?_⟩, hO⟩
  refine ((Only.refl (· = M) w1).setCell (p := ⟨M, 1, none⟩) (.inl rfl) v').row hrow (fun g e hgM => ?_)
  rcases hn g e with h1 | h1
  · exact h.ne_ (by rw [h1, hgM])
  · have := h.blk.lt; omega
set_option maxRecDepth 100000 in
set_option maxHeartbeats 2000000 in
theorem receive_mi (M : Nat) (m : MIn) (v : Value) (x : It) (w : World) (h : MiAt w M m v) (ha : m.taken ≤ 2000000000000) (hl : m.l.length ≤ 5000) : Calls Tryd.prog 19 #[.pointer (some ⟨M, 0, none⟩), .agg #[.int .i64 x.n, .string x.t]] w (MRecvPost M v (recvM m x) w) := by
  have HO := Lib.hid h
  have HX := Lib.hid (itb w x)
  obtain ⟨x0, x1⟩ := HX.out _ (Only.refl _ _)
  have hoA : MiAt (w.alloc (.cells #[.int .i64 x.n, .string x.t] 36)) M m v := h.same ((Only.refl _ _).alloc _)
  have HA := Lib.hid hoA
  have HN : Hid (∀ r : Int, Calls Tryd.prog 19 #[.pointer (some ⟨M, 0, none⟩), .agg #[.int .i64 x.n, .string x.t]] w (fun e w' => e = .returned (.int .i64 r) ∧ Only Nobody w w') → recvM m x = (r, m) → Calls Tryd.prog 19 #[.pointer (some ⟨M, 0, none⟩), .agg #[.int .i64 x.n, .string x.t]] w (MRecvPost M v (recvM m x) w)) := Lib.hid fun r hc e => by
    rw [e]
    exact hc.mono fun e w' ⟨h1, h2⟩ => ⟨h1, v, HO.out.same h2, h2.mono (fun _ x => x.elim), fun k hk => .inl hk⟩
  clear h hoA
  by_cases c1 : x.n < 1
  · refine HN.out 2 ?_ (by unfold recvM; rw [if_pos (.inl c1)])
    go_enter Tryd.func19, Tryd.ntmps19
    go_wp2_with fail
    go_ret
    exact ⟨rfl, by repeat (first | exact Only.refl _ _ | refine Only.drew ?_ | refine Only.alloc ?_ _)⟩
  by_cases c2 : 1099511627776 < x.n
  · refine HN.out 2 ?_ (by unfold recvM; rw [if_pos (.inr c2)])
    go_enter Tryd.func19, Tryd.ntmps19
    go_wp2_with fail
    go_ret
    exact ⟨rfl, by repeat (first | exact Only.refl _ _ | refine Only.drew ?_ | refine Only.alloc ?_ _)⟩
  by_cases c3 : 65536 < x.t.size
  · refine HN.out 5 ?_ (by unfold recvM; rw [if_neg (by omega), if_pos c3])
    have c3I : (65536 : Int) < (x.t.size : Int) := by omega
    clear c3
    go_enter Tryd.func19, Tryd.ntmps19
    go_wp2_with fail
    go_ret
    exact ⟨rfl, by repeat (first | exact Only.refl _ _ | refine Only.drew ?_ | refine Only.alloc ?_ _)⟩
  have c3I : ¬ (65536 : Int) < (x.t.size : Int) := by omega
  obtain ⟨T, HTT⟩ : ∃ T, Hid (m.taken = T) := ⟨_, Lib.hid rfl⟩
  have hTI : (T : Int) ≤ 2000000000000 := by rw [← HTT.out]; omega
  have hT0 : (0 : Int) ≤ (T : Int) := by omega
  have HB0 : Hid (∀ w', Only Nobody (w.alloc (.cells #[.int .i64 x.n, .string x.t] 36)) w' → w'.cell? ⟨M, 0, none⟩ = some (.int .i64 (T : Int))) := Lib.hid fun w' ho => by
    have := (HA.out.same ho).blk.cell 0
    rw [HTT.out] at this
    exact this
  have HRD : Hid (recvM m x = if x.n ≤ (T : Int) ∨ (m.idx x.n).isSome = true then (7, m) else if (T : Int) + 64 < x.n then (39, m) else (0, { m with l := m.l ++ [x] })) := Lib.hid (by
    unfold recvM
    rw [if_neg (by omega), if_neg c3, HTT.out])
  have HFI : Hid (∀ w', MiAt w' M m v → Calls Tryd.prog 45 #[.pointer (some ⟨M, 0, none⟩), .int .i64 x.n] w' fun e w'' => e = .returned (.int .i64 (findI m x.n)) ∧ w'' = w') := Lib.hid fun w' ho => (find_mi M m v x.n w' ho hl).mono fun _ _ ⟨h1, h2⟩ => ⟨h1, h2.symm⟩
  clear c3
  by_cases c4 : x.n ≤ (T : Int)
  · refine HN.out 7 ?_ (by rw [HRD.out, if_pos (.inl c4)])
    have c4d : decide (x.n ≤ (T : Int)) = true := by simpa using c4
    go_enter Tryd.func19, Tryd.ntmps19
    go_wp2_with fail
    have b0 := HB0.out _ (Only.refl _ _)
    go_quiet (fail)
    go_wp2_with fail
    go_ret
    exact ⟨rfl, (by repeat (first | exact Only.refl _ _ | refine Only.drewN ?_ _ | refine Only.drew ?_ | refine Only.alloc ?_ _))⟩
  have c4d : decide (x.n ≤ (T : Int)) = false := by simpa using c4
  obtain ⟨Fi, HFV⟩ : ∃ Fi, Hid (findI m x.n = Fi) := ⟨_, Lib.hid rfl⟩
  rw [HFV.out] at HFI
  have HAD : Hid (∀ w', Only Nobody (w.alloc (.cells #[.int .i64 x.n, .string x.t] 36)) w' → MiAt w' M m v) := Lib.hid fun w' ho => HA.out.same ho
  by_cases c5 : (m.idx x.n).isSome = true
  · refine HN.out 7 ?_ (by rw [HRD.out, if_pos (.inr c5)])
    have hf0 : (0 : Int) ≤ Fi := by
      rw [← HFV.out]
      unfold findI
      obtain ⟨k, hk⟩ := Option.isSome_iff_exists.1 c5
      rw [hk]
      exact Int.natCast_nonneg k
    clear c5
    go_enter Tryd.func19, Tryd.ntmps19
    go_wp2_with fail
    have b0 := HB0.out _ (Only.refl _ _)
    go_quiet ((go_at_call 45; exact Calls.quiet_of_same (HFI.out _ (HAD.out _ (by repeat (first | exact Only.refl _ _ | refine Only.drewN ?_ _ | refine Only.drew ?_ | refine Only.alloc ?_ _))))))
    go_wp2_with fail
    go_ret
    exact ⟨rfl, (by repeat (first | exact Only.refl _ _ | refine Only.drewN ?_ _ | refine Only.drew ?_ | refine Only.alloc ?_ _))⟩
  have hf0 : Fi < 0 := by
    rw [← HFV.out]
    unfold findI
    cases hi : m.idx x.n with
    | none => show (-1 : Int) < 0; omega
    | some k => rw [hi] at c5; exact absurd rfl c5
  have HC5 := Lib.hid c5
  clear c5
  have hw64 : IntKind.i64.wrap ((T : Int) + 64) = (T : Int) + 64 := by rw [IntKind.wrap_i64]; omega
  by_cases c6 : (T : Int) + 64 < x.n
  · refine HN.out 39 ?_ (by rw [HRD.out, if_neg (by rintro (e | e); exact c4 e; exact HC5.out e), if_pos c6])
    go_enter Tryd.func19, Tryd.ntmps19
    go_wp2_with fail
    have b0 := HB0.out _ (Only.refl _ _)
    go_quiet ((go_at_call 45; exact Calls.quiet_of_same (HFI.out _ (HAD.out _ (by repeat (first | exact Only.refl _ _ | refine Only.drewN ?_ _ | refine Only.drew ?_ | refine Only.alloc ?_ _))))))
    go_wp2_with fail
    go_quiet (fail)
    go_wp2_with fail
    go_ret
    exact ⟨rfl, (by repeat (first | exact Only.refl _ _ | refine Only.drewN ?_ _ | refine Only.drew ?_ | refine Only.alloc ?_ _))⟩
  have HRE : Hid (recvM m x = (0, { m with l := m.l ++ [x] })) := Lib.hid (by rw [HRD.out, if_neg (by rintro (e | e); exact c4 e; exact HC5.out e), if_neg c6])
  rw [HRE.out]
  obtain ⟨A, c, rfl⟩ := own_form HO.out.row
  obtain ⟨N, HNN⟩ : ∃ N, Hid (m.l.length = N) := ⟨_, Lib.hid rfl⟩
  rw [HNN.out] at hl
  obtain ⟨i0, hi0, hz0, hz1, hz2⟩ := info_parts infoIt
  go_enter Tryd.func19, Tryd.ntmps19
  go_wp2_with fail
  have b0 := HB0.out _ (Only.refl _ _)
  go_quiet ((go_at_call 45; exact Calls.quiet_of_same (HFI.out _ (HAD.out _ (by repeat (first | exact Only.refl _ _ | refine Only.drewN ?_ _ | refine Only.drew ?_ | refine Only.alloc ?_ _))))))
  generalize nq = n1
  go_wp2_with fail
  go_quiet (fail)
  go_wp2_with fail
  obtain ⟨W, HW⟩ : ∃ W : World, Hid (W = ((w.alloc (.cells #[.int .i64 x.n, .string x.t] 36)).drewN n1).drewN nq) := ⟨_, Lib.hid rfl⟩
  rw [← HW.out]
  have HOW : Hid (Only Nobody (w.alloc (.cells #[.int .i64 x.n, .string x.t] 36)) W) := Lib.hid (by rw [HW.out]; exact (by repeat (first | exact Only.refl _ _ | refine Only.drewN ?_ _)))
  have HOU : Hid (MiAt W M m (.slice A m.l.length c)) := Lib.hid (HA.out.same HOW.out)
  obtain ⟨y0, y1⟩ := HX.out W HOW.out
  have y2 : W.cell? ⟨M, 1, none⟩ = some (.slice A N c) := by
    have := HOU.out.blk.cell 1
    rw [HNN.out] at this
    exact this
  have f2 : W.frozen? ⟨M, 1, none⟩ = false := HOU.out.blk.frozen 1
  have hOW := HOU.out.blk.lt
  have HR : Hid (Reads (W.alloc (.cells #[.int .i64 x.n, .string x.t] 36)).drew (W.heap.size + 1) 2 (some ⟨W.heap.size, 0, none⟩) 1 x.cells) := Lib.hid (reads_alloc W 36 #[.int .i64 x.n, .string x.t] 2 1 rfl)
  have HRW : Hid ((W.alloc (.cells #[.int .i64 x.n, .string x.t] 36)).drew.ownsRow 0 36 2 (.slice A N c) N (itsC m.l)) := Lib.hid (by
    have := HOU.out.row
    rw [HNN.out] at this
    exact Only.row (F := Nobody) (by repeat (first | exact Only.refl _ _ | refine Only.drew ?_ | refine Only.alloc ?_ _)) this (fun _ _ x => x))
  have HU : Hid (∀ u ∈ x.cells, u.oneCell' = true) := Lib.hid (by intro u hu; simp only [It.cells, List.mem_cons, List.not_mem_nil, or_false] at hu; rcases hu with rfl | rfl <;> rfl)
  have HNE : Hid ((Value.slice A N c).ownBlock ≠ some M) := Lib.hid (by have := HO.out.ne_; rw [HNN.out] at this; exact this)
  have HOA2 : Hid (Only Nobody w W) := Lib.hid (((Only.refl Nobody w).alloc _).trans HOW.out)
  clear x0 x1 b0
  go_cut [] (fun wx => ∃ v', MiAt wx M { m with l := m.l ++ [x] } v' ∧ Only (OwnO M (.slice A N c)) w wx ∧ NewOr (.slice A N c) v' w)
  case first =>
    go_region_law (refine step_append_any _ rfl (.tmp 47) (.tmp 49) 29 rfl 0 36 i0 _ 2 24 Tryd.underlying29 hi0 hz0 hz1 hz2 rfl (by omega) (.slice A N c) N (itsC m.l) (by simp [Act.eval]) HRW.out _ (some ⟨W.heap.size, 0, none⟩) 1 1 x.cells (by simp [Act.eval]) HR.out HU.out (by unfold maxLen; omega) (by omega) (by omega) ?_; intro v' w1 hown' hgrow hat; obtain ⟨A', c', rfl⟩ := own_form hown'; have HO' := Lib.hid hown'; have HAT := Lib.hid hat; have HG := Lib.hid hgrow; have hbO : Blk w1 M 31 #[.int .i64 m.taken, .slice A m.l.length c] := (hgrow.block M (by simp; omega) (fun e => HNE.out e.symm)).trans ((HOU.out.same ((Only.refl Nobody W).alloc _).drew).blk); have k1 : w1.cell? ⟨M, 1, none⟩ = some (.slice A m.l.length c) := hbO.cell 1; have g1 : w1.frozen? ⟨M, 1, none⟩ = false := hbO.frozen 1; clear hown' hat hgrow hbO)
    all_goals
      go_wp2_with fail
      go_meet
      refine ⟨.slice A' (N + 1) c', ?_⟩
      have hNO : NewOr (.slice A N c) (.slice A' (N + 1) c') w := fun k hk => HAT.out.elim (fun e => .inl (by rw [← e]; exact hk)) (fun e => .inr (by
        rw [e] at hk
        injection hk with hk
        have := HOA2.out.size
        simp at hk
        omega))
      have hON : Only (fun k => (Value.slice A N c).ownBlock = some k) w w1 := (HOA2.out.mono (fun _ x => x.elim)).trans ((((Only.refl _ W).alloc _).drew).trans (Only.of_grown HG.out (fun k e => e)))
      have hrow : w1.ownsRow 0 36 2 (.slice A' (N + 1) c') (m.l ++ [x]).length (itsC (m.l ++ [x])) := by
        rw [itsC_append, List.length_append, List.length_singleton, HNN.out, show itsC [x] = x.cells by simp [itsC]]
        exact HO'.out
      have hM : MiAt w M m (.slice A N c) := by have := HO.out; rw [HNN.out] at this; exact this
      have hE := mi_end (l' := m.l ++ [x]) hM hrow hON hNO
      exact ⟨hE.1, hE.2, hNO⟩
  case rest =>
    obtain ⟨v', h1, h2, h3⟩ := hcut
    have H1 := Lib.hid h1
    have H2 := Lib.hid h2
    have H3 := Lib.hid h3
    clear h1 h2 h3
    go_wp2_with fail
    go_ret
    rw [HNN.out]
    exact ⟨rfl, v', H1.out, H2.out, H3.out⟩
end Go.Proofs.YthmndclmecnpmaaDoor
