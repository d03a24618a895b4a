/- Exchange: contract of the model's inbox's take. -/
import Derived.Test.YthmndclmecnpmaaDoorMiB
import Derived.Deep.RegionLaw
import Derived.BigRegion
namespace Go.Proofs.YthmndclmecnpmaaDoor
open Go.RowKit
attribute [local go_sem ↓] Go.wp_at_zero Go.wp_at_succ

theorem itsC_drop : ∀ (l : List It) (k : Nat), (itsC l).drop (k * 2) = itsC (l.drop k)
  | l, 0 => by simp
  | [], k + 1 => by simp [itsC]
  | z :: l, k + 1 => by
    have e : itsC (z :: l) = z.cells ++ itsC l := rfl
    have hl : z.cells.length = 2 := rfl
    rw [e, show (k + 1) * 2 = z.cells.length + k * 2 by rw [hl]; omega, List.drop_append, List.drop_of_length_le (by omega), List.nil_append, Nat.add_sub_cancel_left, List.drop_succ_cons, itsC_drop l k]
theorem itsC_take : ∀ (l : List It) (k : Nat), (itsC l).take (k * 2) = itsC (l.take k)
  | l, 0 => by simp [itsC]
  | [], k + 1 => by simp [itsC]
  | z :: l, k + 1 => by
    have e : itsC (z :: l) = z.cells ++ itsC l := rfl
    have hl : z.cells.length = 2 := rfl
    have e2 : itsC (z :: l.take k) = z.cells ++ itsC (l.take k) := rfl
    rw [e, show (k + 1) * 2 = z.cells.length + k * 2 by rw [hl]; omega, List.take_append, List.take_of_length_le (by omega), Nat.add_sub_cancel_left, List.take_succ_cons, itsC_take l k, e2]
theorem item_cut {w : World} {e : TypeId} {g o N c d : Nat} {l : List It} (h : RowAt w 0 e 2 (.slice (some ⟨g, o, none⟩) N c) N (itsC l)) (hd : d ≤ N) : RowAt w 0 e 2 (.slice (some ⟨g, o, none⟩) d c) d (itsC (l.take d)) ∧ RowAt w 0 e 2 (.slice (some ⟨g, o + d * 2, none⟩) (N - d) (c - d)) (N - d) (itsC (l.drop d)) ∧ (N = d → RowAt w 0 e 2 (.slice (some ⟨g, o, none⟩) 0 0) 0 (itsC (l.drop d))) := by
  have hlen := h.1
  rw [itsC_len] at hlen
  rcases h.2 with ⟨hv, _⟩ | ⟨g', o', cap, cur, hv, hb, hg, hnc, hcm, hs, ht⟩
  · cases hv
  · injection hv with h1 h2 h3
    injection h1 with h1
    injection h1 with h1 h4
    subst h1; subst h4; subst h3
    refine ⟨⟨by rw [itsC_len, List.length_take]; omega, .inr ⟨g, o, c, cur, rfl, hb, hg, by omega, by omega, by omega, ?_⟩⟩, ⟨by rw [itsC_len, List.length_drop]; omega, .inr ⟨g, o + d * 2, c - d, cur, rfl, hb, hg, by omega, by omega, by omega, ?_⟩⟩, fun e => ⟨by rw [itsC_len, List.length_drop]; omega, .inr ⟨g, o, 0, cur, rfl, hb, hg, by omega, by omega, by omega, ?_⟩⟩⟩
    · rw [← itsC_take, ← ht, List.take_take]
      congr 1
      omega
    · rw [← itsC_drop, ← ht, List.drop_take, List.drop_drop]
      congr 1
      omega
    · have e2 : l.drop d = [] := List.drop_of_length_le (by omega)
      rw [e2]
      simp [itsC]
theorem oneCell_it (l : List It) : ∀ u ∈ itsC l, u.oneCell' = true := by
  intro u hu
  obtain ⟨y, _, hu⟩ := List.mem_flatMap.1 hu
  simp only [It.cells, List.mem_cons, List.not_mem_nil, or_false] at hu
  rcases hu with rfl | rfl <;> rfl

theorem own_base {w : World} {base base' : Nat} {e : TypeId} {size n : Nat} {v : Value} {xs : List Value} (h : w.ownsRow base e size v n xs) (hb : base' ≤ base) : w.ownsRow base' e size v n xs := by
  refine ⟨h.1, ?_⟩
  rcases h.2 with h0 | ⟨g, cap, cur, hv, h1, h2⟩
  · exact .inl h0
  · exact .inr ⟨g, cap, cur, hv, by omega, h2⟩
theorem new_only {W w1 : World} {o : Obj} (hg : (W.alloc o).drew.grownBy w1 (some W.heap.size)) : Only Nobody W w1 :=
  (Only.refl Nobody W).trans_more ((((Only.refl (More Nobody W) W).alloc o).drew).trans (Only.of_grown hg (fun k e => .inr (by injection e with e; omega))))
def MTakePost (M : Nat) (v : Value) (m : MIn) (w : World) (e : Ending) (w' : World) : Prop := match (takeM m).1 with
  | none => e = .returned (.tuple #[.agg #[.int .i64 0, .string ⟨#[]⟩], .int .i64 8]) ∧ Only Nobody w w'
  | some x => e = .returned (.tuple #[.agg #[.int .i64 x.n, .string x.t], .int .i64 0]) ∧ ∃ v', MiAt w' M (takeM m).2 v' ∧ Only (OwnO M v) w w' ∧ NewOr v v' w
set_option maxRecDepth 100000 in
set_option maxHeartbeats 2000000 in
theorem take_mi (M : Nat) (m : MIn) (v : Value) (w : World) (h : MiAt w M m v) (ha : m.taken ≤ 2000000000000) (hl : m.l.length ≤ 5000) : Calls Tryd.prog 16 #[.pointer (some ⟨M, 0, none⟩)] w (MTakePost M v m w) := by
  have HO := Lib.hid h
  obtain ⟨T, HTT⟩ : ∃ T, Hid (m.taken = T) := ⟨_, Lib.hid rfl⟩
  have hTI : (T : Int) ≤ 2000000000000 := by rw [← HTT.out]; omega
  have hT0 : (0 : Int) ≤ (T : Int) := by omega
  have hw1 : IntKind.i64.wrap ((T : Int) + 1) = (T : Int) + 1 := by rw [IntKind.wrap_i64]; omega
  have HAL : Hid (∀ w', Only Nobody w w' → MiAt w' M m v) := Lib.hid fun w' ho => h.same ho
  have HB0 : Hid (∀ w', Only Nobody w w' → w'.cell? ⟨M, 0, none⟩ = some (.int .i64 (T : Int))) := Lib.hid fun w' ho => by
    have := (HAL.out _ ho).blk.cell 0
    rw [HTT.out] at this
    exact this
  obtain ⟨Fi, HFV⟩ : ∃ Fi, Hid (findI m ((T : Int) + 1) = Fi) := ⟨_, Lib.hid rfl⟩
  have HFI : Hid (∀ w', MiAt w' M m v → Calls Tryd.prog 45 #[.pointer (some ⟨M, 0, none⟩), .int .i64 ((T : Int) + 1)] w' fun e w'' => e = .returned (.int .i64 Fi) ∧ w'' = w') := Lib.hid fun w' ho => (find_mi M m v ((T : Int) + 1) w' ho hl).mono fun _ _ ⟨h1, h2⟩ => ⟨by rw [h1, HFV.out], h2.symm⟩
  have b0 := HB0.out _ ((Only.refl Nobody w).alloc (.cells #[.int .i64 0, .string ⟨#[]⟩] 36))
  clear h
  cases hi : m.idx ((T : Int) + 1) with
  | none =>
    have HP : Hid (MTakePost M v m w = fun e w' => e = .returned (.tuple #[.agg #[.int .i64 0, .string ⟨#[]⟩], .int .i64 8]) ∧ Only Nobody w w') := Lib.hid (by unfold MTakePost takeM; rw [HTT.out, hi])
    rw [HP.out]
    have hf : Fi < 0 := by rw [← HFV.out]; unfold findI; rw [hi]; show (-1 : Int) < 0; omega
    clear hi
    go_enter Tryd.func16, Tryd.ntmps16
    go_wp2_with fail
    refine (HFI.out _ (HAL.out _ (by repeat (first | exact Only.refl _ _ | refine Only.drew ?_ | refine Only.alloc ?_ _)))).mono ?_
    rintro e w1 ⟨rfl, rfl⟩
    go_wp2_with fail
    exact bodyPost_ret (v := .tuple #[.agg #[.int .i64 0, .string ⟨#[]⟩], .int .i64 8]) (by simp [results, Tryd.results16, go_sem]) rfl ⟨rfl, (Only.refl _ _).alloc _⟩
  | some k =>
    obtain ⟨hk, hp, _⟩ := List.findIdx?_eq_some_iff_getElem.1 hi
    obtain ⟨y, hy⟩ : ∃ y, m.l[k]? = some y := ⟨_, List.getElem?_eq_getElem hk⟩
    have HY := Lib.hid hy
    have HP : Hid (MTakePost M v m w = fun e w' => e = .returned (.tuple #[.agg #[.int .i64 y.n, .string y.t], .int .i64 0]) ∧ ∃ v', MiAt w' M ⟨T + 1, m.l.take k ++ m.l.drop (k + 1)⟩ v' ∧ Only (OwnO M v) w w' ∧ NewOr v v' w) := Lib.hid (by
      unfold MTakePost takeM
      rw [HTT.out, hi]
      simp only [hy])
    rw [HP.out]
    have hf : Fi = (k : Int) := by rw [← HFV.out]; unfold findI; rw [hi]
    subst hf
    obtain ⟨N, HNN⟩ : ∃ N, Hid (m.l.length = N) := ⟨_, Lib.hid rfl⟩
    rw [HNN.out] at hk hl
    have hcl := RowAt.of_own HO.out.row
    rw [HNN.out] at hcl
    have hrw := HO.out.row
    rw [HNN.out] at hrw
    obtain ⟨g, c, rfl, hgl, hNc⟩ : ∃ g c, v = .slice (some ⟨g, 0, none⟩) N c ∧ g < w.heap.size ∧ N ≤ c := by
      rcases hrw.2 with ⟨_, h0⟩ | ⟨g, cap, cur, h1, _, h3, h4, _⟩
      · omega
      · exact ⟨g, cap, h1, (Array.getElem?_eq_some_iff.1 h3).1, h4⟩
    have HRW := Lib.hid hrw
    obtain ⟨g', o', c', hv, _, _, _, hcc, _⟩ := hcl.cell (by omega)
    injection hv with hv1 hv2 hv3
    injection hv1 with hv1
    injection hv1 with hv1 hv4
    subst hv1; subst hv4; subst hv3
    have HCC : Hid (∀ w', Only Nobody w w' → w'.cell? ⟨g, k * 2, none⟩ = some (.int .i64 y.n) ∧ w'.cell? ⟨g, k * 2 + 1, none⟩ = some (.string y.t) ∧ w'.cell? ⟨M, 1, none⟩ = some (.slice (some ⟨g, 0, none⟩) N c)) := Lib.hid fun w' ho => by
      refine ⟨(ho.cell (p := ⟨g, _, none⟩) hgl (fun x => x)).trans ?_, (ho.cell (p := ⟨g, _, none⟩) hgl (fun x => x)).trans ?_, ?_⟩
      · have := hcc (k * 2) _ ((itsC_get _ k 0 y HY.out (by omega)).trans rfl)
        rw [Nat.zero_add] at this
        exact this
      · have := hcc (k * 2 + 1) _ ((itsC_get _ k 1 y HY.out (by omega)).trans rfl)
        rw [Nat.zero_add] at this
        exact this
      · have := (HAL.out _ ho).blk.cell 1
        exact this
    have hkI : (k : Int) < (N : Int) := by omega
    have hk0 : (0 : Int) ≤ (k : Int) := by omega
    have hcI : (N : Int) ≤ (c : Int) := by omega
    have hw2 : IntKind.i64.wrap ((k : Int) + 1) = (k : Int) + 1 := by rw [IntKind.wrap_i64]; omega
    obtain ⟨d0, d1, d2⟩ := HCC.out _ ((Only.refl Nobody w).alloc (.cells #[.int .i64 0, .string ⟨#[]⟩] 36))
    clear hcl hcc hi hp hy hrw
    go_enter Tryd.func16, Tryd.ntmps16
    go_wp2_with fail
    refine (HFI.out _ (HAL.out _ (by repeat (first | exact Only.refl _ _ | refine Only.drew ?_ | refine Only.alloc ?_ _)))).mono ?_
    rintro e w1 ⟨rfl, rfl⟩
    go_upto_region 5 with fail
    obtain ⟨W, HW⟩ : ∃ W : World, Hid (W = (w.alloc (.cells #[.int .i64 0, .string ⟨#[]⟩] 36)).alloc (.cells #[.int .i64 y.n, .string y.t] 36)) := ⟨_, Lib.hid rfl⟩
    rw [← HW.out]
    have HOW : Hid (Only Nobody w W) := Lib.hid (by rw [HW.out]; exact ((Only.refl _ _).alloc _).alloc _)
    obtain ⟨_, _, d3⟩ := HCC.out W HOW.out
    have f3 : W.frozen? ⟨M, 1, none⟩ = false := (HAL.out W HOW.out).blk.frozen 1
    have hMW : M < W.heap.size := (HAL.out W HOW.out).blk.lt
    obtain ⟨i0, hi0, hz0, hz1, hz2⟩ := info_parts infoIt
    have HEM : Hid ((W.alloc (.cells #[] 36)).drew.ownsRow W.heap.size 36 2 (.slice (some ⟨W.heap.size, 0, none⟩) 0 0) 0 []) := Lib.hid ⟨rfl, .inr ⟨W.heap.size, 0, #[], rfl, Nat.le_refl _, Blk.new W _ _, Nat.le_refl _, by unfold maxLen; omega, rfl, rfl⟩⟩
    have HRA : Hid (∀ w', Only Nobody w w' → RowAt w' 0 36 2 (.slice (some ⟨g, 0, none⟩) N c) N (itsC m.l)) := Lib.hid fun w' ho => (RowAt.of_own HRW.out).keep ho (fun _ _ x => x)
    have HR1 : Hid (∀ w', Only Nobody w w' → Reads w' w'.heap.size 2 (some ⟨g, 0, none⟩) k (itsC (m.l.take k))) := Lib.hid fun w' ho => (item_cut (HRA.out w' ho) (by omega)).1.reads
    have HU1 := Lib.hid (oneCell_it (m.l.take k))
    have HU2 := Lib.hid (oneCell_it (m.l.drop (k + 1)))
    clear d0 d1 d2 b0
    go_cut [] (fun wx => ∃ v', MiAt wx M ⟨T, m.l.take k ++ m.l.drop (k + 1)⟩ v' ∧ Only (· = M) W wx ∧ (∀ b, v'.ownBlock = some b → W.heap.size ≤ b))
    case first =>
      by_cases hck : c = k + 1
      · have hckI : (c : Int) = (k : Int) + 1 := by omega
        have hkc : (k : Int) + 1 ≤ (c : Int) := by omega
        have hkc0 : (k : Int) ≤ (c : Int) := by omega
        have hk10 : (0 : Int) ≤ (k : Int) + 1 := by omega
        have hkcn : k ≤ c := by omega
        have hk1n : k + 1 ≤ N := by omega
        have hk1c : k + 1 ≤ c := by omega
        have hkN : (k : Int) + 1 ≤ (N : Int) := by omega
        have hNk : N = k + 1 := by omega
        have HR2 : Hid (∀ w', Only Nobody w w' → Reads w' w'.heap.size 2 (some ⟨g, 0, none⟩) 0 (itsC (m.l.drop (k + 1)))) := Lib.hid fun w' ho => ((item_cut (d := k + 1) (HRA.out w' ho) (by omega)).2.2 hNk).reads
        subst hck
        subst hNk
        have hs1 : (k : Int) ≤ (k : Int) + 1 := by omega
        have hs2 : (0 : Int) ≤ (k : Int) + 1 := by omega
        have hs3 : (k : Int) < (k : Int) + 1 := by omega
        go_region_law (first
          | (refine step_append_any _ rfl (.tmp 24) (.tmp 30) 29 rfl W.heap.size 36 i0 _ 2 24 Tryd.underlying29 hi0 hz0 hz1 hz2 rfl (by omega) (.slice (some ⟨W.heap.size, 0, none⟩) 0 0) 0 [] (by first | rfl | simp [Act.eval, Act.put]) HEM.out _ (some ⟨g, 0, none⟩) k (k + 1) (itsC (m.l.take k)) (by first | rfl | simp [Act.eval, Act.put]) (HR1.out _ (HOW.out.trans (by repeat (first | exact Only.refl _ _ | refine Only.drew ?_ | refine Only.alloc ?_ _)))) HU1.out (by unfold maxLen; omega) (by omega) (by simp) ?_; intro v1 w1 hown1 hgr1 hat1; rw [Nat.zero_add, List.nil_append] at hown1; obtain ⟨A1, c1, rfl⟩ := own_form hown1; have HO1 := Lib.hid hown1; have HWA : Hid (Only Nobody W w1) := Lib.hid (new_only hgr1); have hm1 := HAL.out w1 (HOW.out.trans HWA.out); have z1 : w1.cell? ⟨M, 1, none⟩ = some (.slice (some ⟨g, 0, none⟩) (k + 1) (k + 1)) := (HCC.out w1 (HOW.out.trans HWA.out)).2.2; have z2 : w1.frozen? ⟨M, 1, none⟩ = false := hm1.blk.frozen 1; have HSZ : Hid (W.heap.size ≤ w1.heap.size) := Lib.hid HWA.out.size; clear hown1 hgr1 hat1 hm1)
          | (refine step_append_any _ rfl (.tmp 31) (.tmp 38) 29 rfl W.heap.size 36 i0 _ 2 24 Tryd.underlying29 hi0 hz0 hz1 hz2 rfl (by omega) (.slice A1 k c1) k (itsC (m.l.take k)) (by first | rfl | simp [Act.eval, Act.put]) HO1.out _ (some ⟨g, 0, none⟩) 0 0 (itsC (m.l.drop (k + 1))) (by first | rfl | simp [Act.eval, Act.put]) (HR2.out _ (HOW.out.trans HWA.out)) HU2.out (by unfold maxLen; omega) (by omega) HSZ.out ?_; intro v2 w2 hown2 hgr2 hat2; obtain ⟨A2, c2, rfl⟩ := own_form hown2; have HO2 := Lib.hid hown2; have HWB : Hid (Only Nobody W w2) := Lib.hid (HWA.out.trans_more (Only.of_grown hgr2 (fun k' e => .inr (HO1.out.lt k' e).1))); have hm2 := HAL.out w2 (HOW.out.trans HWB.out); have z1 : w2.cell? ⟨M, 1, none⟩ = some (.slice (some ⟨g, 0, none⟩) (k + 1) (k + 1)) := (HCC.out w2 (HOW.out.trans HWB.out)).2.2; have z2 : w2.frozen? ⟨M, 1, none⟩ = false := hm2.blk.frozen 1; clear hown2 hgr2 hat2 hm2))
        all_goals
          go_wp2_with fail
          go_meet
          have hrow : w2.ownsRow 0 36 2 (.slice A2 (k + (0)) c2) (m.l.take k ++ m.l.drop (k + 1)).length (itsC (m.l.take k ++ m.l.drop (k + 1))) := by
            have hlen : (m.l.take k ++ m.l.drop (k + 1)).length = k + (0) := by
              have := HNN.out
              rw [List.length_append, List.length_take, List.length_drop]
              omega
            rw [hlen, itsC_append]
            exact own_base HO2.out (Nat.zero_le _)
          have hE := mi_end (l' := m.l.take k ++ m.l.drop (k + 1)) (HAL.out W HOW.out) hrow (HWB.out.mono (fun _ x => x.elim)) (fun k' e => .inr (HO2.out.lt k' e).1)
          have h1 := hE.1
          rw [HTT.out] at h1
          have hOM : Only (fun x => x = M) W w2 := HWB.out.mono (fun _ x => x.elim)
          exact ⟨_, h1, hOM.setCell (p := ⟨M, 1, none⟩) (.inl rfl) _, fun b e => (HO2.out.lt b e).1⟩
      · have hckI : ¬ (c : Int) = (k : Int) + 1 := by omega
        have hkc : (k : Int) + 1 ≤ (c : Int) := by omega
        have hkc0 : (k : Int) ≤ (c : Int) := by omega
        have hk10 : (0 : Int) ≤ (k : Int) + 1 := by omega
        have hkcn : k ≤ c := by omega
        have hk1n : k + 1 ≤ N := by omega
        have hk1c : k + 1 ≤ c := by omega
        have hkN : (k : Int) + 1 ≤ (N : Int) := by omega
        have HR2 : Hid (∀ w', Only Nobody w w' → Reads w' w'.heap.size 2 (some ⟨g, (k + 1) * 2, none⟩) (N - (k + 1)) (itsC (m.l.drop (k + 1)))) := Lib.hid fun w' ho => by
          have := (item_cut (d := k + 1) (HRA.out w' ho) (by omega)).2.1.reads
          rw [Nat.zero_add] at this
          exact this
        go_region_law (first
          | (refine step_append_any _ rfl (.tmp 24) (.tmp 30) 29 rfl W.heap.size 36 i0 _ 2 24 Tryd.underlying29 hi0 hz0 hz1 hz2 rfl (by omega) (.slice (some ⟨W.heap.size, 0, none⟩) 0 0) 0 [] (by first | rfl | simp [Act.eval, Act.put]) HEM.out _ (some ⟨g, 0, none⟩) k c (itsC (m.l.take k)) (by first | rfl | simp [Act.eval, Act.put]) (HR1.out _ (HOW.out.trans (by repeat (first | exact Only.refl _ _ | refine Only.drew ?_ | refine Only.alloc ?_ _)))) HU1.out (by unfold maxLen; omega) (by omega) (by simp) ?_; intro v1 w1 hown1 hgr1 hat1; rw [Nat.zero_add, List.nil_append] at hown1; obtain ⟨A1, c1, rfl⟩ := own_form hown1; have HO1 := Lib.hid hown1; have HWA : Hid (Only Nobody W w1) := Lib.hid (new_only hgr1); have hm1 := HAL.out w1 (HOW.out.trans HWA.out); have z1 : w1.cell? ⟨M, 1, none⟩ = some (.slice (some ⟨g, 0, none⟩) N c) := (HCC.out w1 (HOW.out.trans HWA.out)).2.2; have z2 : w1.frozen? ⟨M, 1, none⟩ = false := hm1.blk.frozen 1; have HSZ : Hid (W.heap.size ≤ w1.heap.size) := Lib.hid HWA.out.size; clear hown1 hgr1 hat1 hm1)
          | (refine step_append_any _ rfl (.tmp 31) (.tmp 38) 29 rfl W.heap.size 36 i0 _ 2 24 Tryd.underlying29 hi0 hz0 hz1 hz2 rfl (by omega) (.slice A1 k c1) k (itsC (m.l.take k)) (by first | rfl | simp [Act.eval, Act.put]) HO1.out _ (some ⟨g, (k + 1) * 2, none⟩) (N - (k + 1)) (c - (k + 1)) (itsC (m.l.drop (k + 1))) (by first | rfl | simp [Act.eval, Act.put]) (HR2.out _ (HOW.out.trans HWA.out)) HU2.out (by unfold maxLen; omega) (by omega) HSZ.out ?_; intro v2 w2 hown2 hgr2 hat2; obtain ⟨A2, c2, rfl⟩ := own_form hown2; have HO2 := Lib.hid hown2; have HWB : Hid (Only Nobody W w2) := Lib.hid (HWA.out.trans_more (Only.of_grown hgr2 (fun k' e => .inr (HO1.out.lt k' e).1))); have hm2 := HAL.out w2 (HOW.out.trans HWB.out); have z1 : w2.cell? ⟨M, 1, none⟩ = some (.slice (some ⟨g, 0, none⟩) N c) := (HCC.out w2 (HOW.out.trans HWB.out)).2.2; have z2 : w2.frozen? ⟨M, 1, none⟩ = false := hm2.blk.frozen 1; clear hown2 hgr2 hat2 hm2))
        all_goals
          go_wp2_with fail
          go_meet
          have hrow : w2.ownsRow 0 36 2 (.slice A2 (k + (N - (k + 1))) c2) (m.l.take k ++ m.l.drop (k + 1)).length (itsC (m.l.take k ++ m.l.drop (k + 1))) := by
            have hlen : (m.l.take k ++ m.l.drop (k + 1)).length = k + (N - (k + 1)) := by
              have := HNN.out
              rw [List.length_append, List.length_take, List.length_drop]
              omega
            rw [hlen, itsC_append]
            exact own_base HO2.out (Nat.zero_le _)
          have hE := mi_end (l' := m.l.take k ++ m.l.drop (k + 1)) (HAL.out W HOW.out) hrow (HWB.out.mono (fun _ x => x.elim)) (fun k' e => .inr (HO2.out.lt k' e).1)
          have h1 := hE.1
          rw [HTT.out] at h1
          have hOM : Only (fun x => x = M) W w2 := HWB.out.mono (fun _ x => x.elim)
          exact ⟨_, h1, hOM.setCell (p := ⟨M, 1, none⟩) (.inl rfl) _, fun b e => (HO2.out.lt b e).1⟩
    case rest =>
      obtain ⟨v', hm, hon, hnv⟩ := hcut
      have HM := Lib.hid hm
      have HON := Lib.hid hon
      have HNV := Lib.hid hnv
      have hMw : M < w.heap.size := HO.out.blk.lt
      have HBx : Hid (Blk wc (w.heap.size + 1) 36 #[.int .i64 y.n, .string y.t]) := Lib.hid (hon.blk (by
        rw [HW.out]
        have := Blk.new (w.alloc (.cells #[.int .i64 0, .string ⟨#[]⟩] 36)) 36 #[.int .i64 y.n, .string y.t]
        simpa using this) (by show ¬ w.heap.size + 1 = M; omega))
      have HBr : Hid (Blk wc w.heap.size 36 #[.int .i64 0, .string ⟨#[]⟩]) := Lib.hid (hon.blk (by
        rw [HW.out]
        exact ((Only.refl Nobody _).alloc _).blk (Blk.new w _ _) (fun x => x)) (by show ¬ w.heap.size = M; omega))
      have x0 : wc.cell? ⟨w.heap.size + 1, 0, none⟩ = some (.int .i64 y.n) := HBx.out.cell 0
      have x1 : wc.cell? ⟨w.heap.size + 1, 1, none⟩ = some (.string y.t) := HBx.out.cell 1
      have y0 : wc.cell? ⟨w.heap.size, 0, none⟩ = some (.int .i64 0) := HBr.out.cell 0
      have y1 : wc.cell? ⟨w.heap.size, 1, none⟩ = some (.string ⟨#[]⟩) := HBr.out.cell 1
      have fy0 : wc.frozen? ⟨w.heap.size, 0, none⟩ = false := HBr.out.frozen 0
      have fy1 : wc.frozen? ⟨w.heap.size, 1, none⟩ = false := HBr.out.frozen 1
      have k0 : wc.cell? ⟨M, 0, none⟩ = some (.int .i64 (T : Int)) := hm.blk.cell 0
      have f0 : wc.frozen? ⟨M, 0, none⟩ = false := hm.blk.frozen 0
      have hMn : ¬ M = w.heap.size := by omega
      have hMn1 : ¬ M = w.heap.size + 1 := by omega
      have hnM : ¬ w.heap.size = M := by omega
      have hnM1 : ¬ w.heap.size + 1 = M := by omega
      clear hm hon hnv d3 f3
      go_wp2_with fail
      have hTc : ((T + 1 : Nat) : Int) = (T : Int) + 1 := by omega
      have hb1 := ((HM.out.blk.set_ 0 (.int .i64 ((T : Int) + 1))).far (show M ≠ w.heap.size from hMn) (p := ⟨w.heap.size, 0, none⟩) (.int .i64 y.n)).far (show M ≠ w.heap.size from hMn) (p := ⟨w.heap.size, 1, none⟩) (.string y.t)
      have hoF : Only (fun x => x = M ∨ x = w.heap.size) wc (((wc.setCell ⟨M, 0, none⟩ (.int .i64 ((T : Int) + 1))).setCell ⟨w.heap.size, 0, none⟩ (.int .i64 y.n)).setCell ⟨w.heap.size, 1, none⟩ (.string y.t)) := (((Only.refl (fun x => x = M ∨ x = w.heap.size) wc).setCell (p := ⟨M, 0, none⟩) (.inl (.inl rfl)) _).setCell (p := ⟨w.heap.size, 0, none⟩) (.inl (.inr rfl)) _).setCell (p := ⟨w.heap.size, 1, none⟩) (.inl (.inr rfl)) _
      have hWw := HOW.out.size
      have hWl : w.heap.size < W.heap.size := by rw [HW.out]; simp; omega
      have hrow := hoF.row HM.out.row (fun b e hx => by
        have h1 := HNV.out b e
        have h2 := HO.out.blk.lt
        omega)
      have hOn : Only (OwnO M (.slice (some ⟨g, 0, none⟩) N c)) w (((wc.setCell ⟨M, 0, none⟩ (.int .i64 ((T : Int) + 1))).setCell ⟨w.heap.size, 0, none⟩ (.int .i64 y.n)).setCell ⟨w.heap.size, 1, none⟩ (.string y.t)) := ((HOW.out.mono (fun _ x => x.elim)).trans (HON.out.mono (fun x e => .inl e))).trans_more (hoF.mono (fun x hx => hx.elim (fun e => .inl (.inl e)) (fun e => .inr (by rw [e]; exact Nat.le_refl _))))
      exact bodyPost_ret (v := .tuple #[.agg #[.int .i64 y.n, .string y.t], .int .i64 0]) (by simp [results, Tryd.results16, go_sem, y0, y1]) rfl ⟨rfl, v', ⟨by show Blk _ _ _ #[.int .i64 ((T + 1 : Nat) : Int), v']; rw [hTc]; exact hb1, hrow⟩, hOn, fun b e => .inr (Nat.le_trans hWw (HNV.out b e))⟩
end Go.Proofs.YthmndclmecnpmaaDoor
