/- Exchange: contracts of the model's pending, due. -/
import Derived.Test.YthmndclmecnpmaaDoorMoC
import Derived.Deep.CutRange
import Derived.BigRegion
namespace Go.Proofs.YthmndclmecnpmaaDoor
open Go.RowKit
attribute [local go_sem ↓] Go.wp_at_zero Go.wp_at_succ

set_option maxRecDepth 100000 in
set_option maxHeartbeats 4000000 in
theorem pending_mo (O : Nat) (S : OutS) (v : Value) (w : World) (h : MoAt w O S v) (hl : S.l.length ≤ 5000) : Calls Tryd.prog 35 #[.pointer (some ⟨O, 0, none⟩)] w (PendPost S w) := by
  have HO := Lib.hid h
  obtain ⟨N, HNN⟩ : ∃ N, Hid (S.l.length = N) := ⟨_, Lib.hid rfl⟩
  obtain ⟨A, c, rfl, hnc, hcm⟩ := h.row.form
  rw [HNN.out] at hl hnc
  clear h
  go_enter Tryd.func35, Tryd.ntmps35
  go_wp2_with fail
  go_loopw [3, 4] (fun ov i wx => ∃ k : Nat, i = .int .i64 (k : Int) ∧ k ≤ N ∧ Hid (wx.ownsRow w.heap.size 36 2 ov k (itsC ((S.l.take k).map (·.x)))) ∧ Hid (Only Nobody w wx)) (fun _ i _ => N - (intOf i).toNat)
  case atStart => exact ⟨0, rfl, Nat.zero_le _, Lib.hid ⟨rfl, .inl ⟨rfl, rfl⟩⟩, Lib.hid (by repeat (first | exact Only.refl _ _ | refine Only.drew ?_ | refine Only.alloc ?_ _))⟩
  case round =>
    obtain ⟨k, rfl, hk, HOWN, HON⟩ := hrel
    have k1 : wr.cell? ⟨O, 1, none⟩ = some (.slice A N c) := by
      have := (HO.out.same HON.out).blk.cell 1
      rw [HNN.out] at this
      exact this
    by_cases hkm : k < N
    · have hkI : (k : Int) < (N : Int) := by omega
      have hk0 : (0 : Int) ≤ (k : Int) := by omega
      obtain ⟨y, hy⟩ : ∃ y, S.l[k]? = some y := ⟨_, List.getElem?_eq_getElem (by rw [HNN.out]; omega)⟩
      have HY := Lib.hid hy
      have hcl := (HO.out.same HON.out).row
      rw [HNN.out] at hcl
      obtain ⟨g, o, c', hv, _, hgl, _, hcc, hfc⟩ := hcl.cell (by omega)
      injection hv with hv1 hv2 hv3
      subst hv1; subst hv3
      have c0 : wr.cell? ⟨g, o + k * 4, none⟩ = some (.int .i64 y.x.n) := hcc (k * 4) _ ((sndsC_get _ k 0 y hy (by omega)).trans rfl)
      have c1 : wr.cell? ⟨g, o + k * 4 + 1, none⟩ = some (.string y.x.t) := hcc (k * 4 + 1) _ ((sndsC_get _ k 1 y hy (by omega)).trans rfl)
      obtain ⟨A7, c7, rfl⟩ := own_form HOWN.out
      obtain ⟨i0, hi0, hz0, hz1, hz2⟩ := info_parts infoIt
      clear hcc hfc hcl hy
      have HR : Hid (Reads (wr.alloc (.cells #[.int .i64 y.x.n, .string y.x.t] 36)) (wr.heap.size + 1) 2 (some ⟨wr.heap.size, 0, none⟩) 1 y.x.cells) := Lib.hid (reads_alloc wr 36 #[.int .i64 y.x.n, .string y.x.t] 2 1 rfl)
      have HBB : Hid (w.heap.size ≤ wr.heap.size) := Lib.hid HON.out.size
      have HBY : Hid (k + 1 ≤ maxLen ∧ (k + 1) * 24 ≤ 140737488355328) := Lib.hid (by unfold maxLen; omega)
      have HU : Hid (∀ u ∈ y.x.cells, u.oneCell' = true) := Lib.hid (by intro u hu; simp only [It.cells, List.mem_cons, List.not_mem_nil, or_false] at hu; rcases hu with rfl | rfl <;> rfl)
      have HBB2 : Hid (∀ o : Obj, w.heap.size ≤ (wr.alloc o).heap.size) := Lib.hid (fun o => by have := HBB.out; simp; omega)
      go_wp2_with (at_builtin; refine wpList_append_any _ rfl (.tmp 14) (.tmp 23) _ rfl w.heap.size 36 i0 _ 2 24 Tryd.underlying29 hi0 hz0 hz1 hz2 rfl (by omega) (.slice A7 k c7) k (itsC ((S.l.take k).map (·.x))) rfl (HOWN.out.alloc _) _ (some ⟨wr.heap.size, 0, none⟩) 1 1 y.x.cells rfl HR.out HU.out HBY.out.1 HBY.out.2 (HBB2.out _) ?_
                   intro v2 w3 hown2 hgr2 hat2
                   have HO3 := Lib.hid hown2
                   have HG3 := Lib.hid hgr2
                   clear hown2 hgr2 hat2)
      go_roundw
      case rel =>
        have HOWN3 : Hid (w3.ownsRow w.heap.size 36 2 v2 (k + 1) (itsC ((S.l.take (k + 1)).map (·.x)))) := Lib.hid (by
          have hy := HY.out
          have hk : k < S.l.length := (List.getElem?_eq_some_iff.1 hy).1
          have hyy : S.l[k] = y := by rw [List.getElem?_eq_getElem hk] at hy; exact Option.some.inj hy
          rw [List.take_succ_eq_append_getElem hk, hyy, List.map_append, itsC_append, show itsC ([y].map (·.x)) = y.x.cells by simp [itsC]]
          exact HO3.out)
        have HON3 : Hid (Only Nobody w w3) := Lib.hid (HON.out.trans_more (((Only.refl (fun x => w.heap.size ≤ x) wr).alloc _).trans (Only.of_grown HG3.out (fun g' e => (HOWN.out.lt g' e).1)) |>.mono (fun x hx => .inr hx)))
        first
        | exact ⟨k + 1, by go_num, by omega, HOWN3, HON3⟩
        | ((repeat apply Exists.intro); exact ⟨⟨k + 1, by go_num, by omega, HOWN3, HON3⟩, rfl⟩)
      case measure => simp [intOf]; omega
    · obtain rfl : k = N := by omega
      go_wp2_with fail
      go_ret
      refine ⟨u3, rfl, ?_, HON.out⟩
      rw [HNN.out]
      have := HOWN.out
      rw [List.take_of_length_le (by rw [HNN.out]; omega)] at this
      exact this

theorem mmark_set {w : World} {O k g o N c : Nat} {a : Nat} {L : List Snd} {y y' : Snd} (h : MoAt w O ⟨a, L⟩ (.slice (some ⟨g, o, none⟩) N c)) (hN : L.length = N) (hy : L[k]? = some y) (hx : y'.x = y.x) :
    MoAt ((w.setCell ⟨g, o + k * 4 + 2, none⟩ (.bool y'.sent)).setCell ⟨g, o + k * 4 + 3, none⟩ (.int .i64 y'.at_)) O ⟨a, L.set k y'⟩ (.slice (some ⟨g, o, none⟩) N c) ∧
    MoAt ((w.setCell ⟨g, o + k * 4 + 3, none⟩ (.int .i64 y'.at_)).setCell ⟨g, o + k * 4 + 2, none⟩ (.bool y'.sent)) O ⟨a, L.set k y'⟩ (.slice (some ⟨g, o, none⟩) N c) := by
  have hk : k < L.length := (List.getElem?_eq_some_iff.1 hy).1
  have hne : g ≠ O := fun e => h.ne_ (by rw [← e]; rfl)
  have hr := h.row
  rw [show (⟨a, L⟩ : OutS).l = L from rfl, hN] at hr
  refine ⟨⟨Only.blk (F := (· = g)) (((Only.refl (· = g) w).setCell (p := ⟨g, o + k * 4 + 2, none⟩) (.inl rfl) _).setCell (p := ⟨g, o + k * 4 + 3, none⟩) (.inl rfl) _) h.blk (fun e => hne e.symm), ?_⟩, ⟨Only.blk (F := (· = g)) (((Only.refl (· = g) w).setCell (p := ⟨g, o + k * 4 + 3, none⟩) (.inl rfl) _).setCell (p := ⟨g, o + k * 4 + 2, none⟩) (.inl rfl) _) h.blk (fun e => hne e.symm), ?_⟩⟩
  · show RowAt _ _ _ _ _ (L.set k y').length (sndsC (L.set k y'))
    rw [List.length_set, hN, snds_set hy hx]
    exact (hr.set_ (k * 4 + 2) (by omega) (.bool y'.sent)).set_ (k * 4 + 3) (by omega) (.int .i64 y'.at_)
  · show RowAt _ _ _ _ _ (L.set k y').length (sndsC (L.set k y'))
    rw [List.length_set, hN, snds_set hy hx, List.set_comm _ _ (by omega)]
    exact (hr.set_ (k * 4 + 3) (by omega) (.int .i64 y'.at_)).set_ (k * 4 + 2) (by omega) (.bool y'.sent)
def MDuePost (O : Nat) (S : OutS) (v : Value) (now iv : Int) (w : World) (e : Ending) (w' : World) : Prop :=
  ∃ vo, e = .returned vo ∧ w'.ownsRow w.heap.size 36 2 vo (dueTo now iv (min S.l.length 64) S.l).length (itsC (dueTo now iv (min S.l.length 64) S.l)) ∧ MoAt w' O { S with l := markTo now iv (min S.l.length 64) S.l } v ∧ Only (OwnO O v) w w'
set_option maxRecDepth 100000 in
set_option maxHeartbeats 4000000 in
theorem due_mo (O : Nat) (S : OutS) (v : Value) (now iv : Int) (hn : -1000000 ≤ now ∧ now ≤ 1000000) (hi : -1000000 ≤ iv ∧ iv ≤ 1000000) (w : World) (h : MoAt w O S v) (hl : S.l.length ≤ 5000) : Calls Tryd.prog 31 #[.pointer (some ⟨O, 0, none⟩), .int .i64 now, .int .i64 iv] w (MDuePost O S v now iv w) := by
  have HO := Lib.hid h
  obtain ⟨N, HNN⟩ : ∃ N, Hid (S.l.length = N) := ⟨_, Lib.hid rfl⟩
  obtain ⟨A, c, rfl, hnc, hcm⟩ := h.row.form
  rw [HNN.out] at hl hnc
  obtain ⟨M, HM⟩ : ∃ M, Hid (min N 64 = M) := ⟨_, Lib.hid rfl⟩
  have hM64 : M ≤ 64 := by rw [← HM.out]; omega
  have hMN : M ≤ N := by rw [← HM.out]; omega
  have hwi : IntKind.i64.wrap (now - iv) = now - iv := by rw [IntKind.wrap_i64]; omega
  clear h
  go_enter Tryd.func31, Tryd.ntmps31
  go_wp2_with fail
  go_loopw [7, 8] (fun ov i wx => ∃ k : Nat, i = .int .i64 (k : Int) ∧ k ≤ M ∧ Hid (wx.ownsRow w.heap.size 36 2 ov (dueTo now iv k S.l).length (itsC (dueTo now iv k S.l))) ∧ Hid (MoAt wx O { S with l := markTo now iv k S.l } (.slice A N c)) ∧ Hid (Only (OwnO O (.slice A N c)) w wx)) (fun _ i _ => M - (intOf i).toNat)
  case atStart =>
    have e1 : markTo now iv 0 S.l = S.l := by simp [markTo]
    refine ⟨0, rfl, Nat.zero_le _, Lib.hid ⟨rfl, .inl ⟨rfl, rfl⟩⟩, Lib.hid ?_, Lib.hid (Only.refl _ _)⟩
    rw [e1]
    have := HO.out
    rw [HNN.out] at this
    exact this
  case round =>
    obtain ⟨k, rfl, hk, HOWN, HOX, HON⟩ := hrel
    have k1 : wr.cell? ⟨O, 1, none⟩ = some (.slice A N c) := HOX.out.blk.cell 1
    by_cases hkm : k < M
    · have hkN : (k : Int) < (N : Int) := by omega
      have hk64 : (k : Int) < 64 := by omega
      have hk0 : (0 : Int) ≤ (k : Int) := by omega
      obtain ⟨y, hy⟩ : ∃ y, S.l[k]? = some y := ⟨_, List.getElem?_eq_getElem (by rw [HNN.out]; omega)⟩
      have HY := Lib.hid hy
      have hcl := HOX.out.row
      have hlen : (markTo now iv k S.l).length = N := by rw [markTo_len, HNN.out]
      rw [show ({ S with l := markTo now iv k S.l } : OutS).l = markTo now iv k S.l from rfl, hlen] at hcl
      obtain ⟨g, o, c', hv, _, hgl, _, hcc, hfc⟩ := hcl.cell (by omega)
      injection hv with hv1 hv2 hv3
      subst hv1; subst hv3
      have hget := markTo_get (now := now) (iv := iv) hy
      have c0 : wr.cell? ⟨g, o + k * 4, none⟩ = some (.int .i64 y.x.n) := hcc (k * 4) _ ((sndsC_get _ k 0 y hget (by omega)).trans rfl)
      have c1 : wr.cell? ⟨g, o + k * 4 + 1, none⟩ = some (.string y.x.t) := hcc (k * 4 + 1) _ ((sndsC_get _ k 1 y hget (by omega)).trans rfl)
      have c2 : wr.cell? ⟨g, o + k * 4 + 2, none⟩ = some (.bool y.sent) := hcc (k * 4 + 2) _ ((sndsC_get _ k 2 y hget (by omega)).trans rfl)
      have c3 : wr.cell? ⟨g, o + k * 4 + 3, none⟩ = some (.int .i64 y.at_) := hcc (k * 4 + 3) _ ((sndsC_get _ k 3 y hget (by omega)).trans rfl)
      have HFR : Hid (∀ j, wr.frozen? ⟨g, o + j, none⟩ = false) := Lib.hid hfc
      have hne : g ≠ O := fun e => HOX.out.ne_ (by rw [← e]; rfl)
      have HNE := Lib.hid hne
      have HGL := Lib.hid hgl
      clear hfc hcl hy hget hcc hne
      obtain ⟨yx, ys, ya⟩ := y
      go_upto_region 6 with fail
      obtain ⟨Wa, HWa⟩ : ∃ W : World, Hid (W = wr.alloc (.cells #[.int .i64 yx.n, .string yx.t, .bool ys, .int .i64 ya] 97)) := ⟨_, Lib.hid rfl⟩
      obtain ⟨b, HB⟩ : ∃ b, Hid (b = wr.heap.size) := ⟨_, Lib.hid rfl⟩
      rw [← HWa.out, ← HB.out]
      have HAO : Hid (Only Nobody wr Wa) := Lib.hid (by rw [HWa.out]; exact (Only.refl _ _).alloc _)
      have HBC : Hid (Blk Wa b 97 #[.int .i64 yx.n, .string yx.t, .bool ys, .int .i64 ya]) := Lib.hid (by rw [HWa.out, HB.out]; exact Blk.new wr _ _)
      have e2 : Wa.cell? ⟨b, 2, none⟩ = some (.bool ys) := HBC.out.cell 2
      have e3 : Wa.cell? ⟨b, 3, none⟩ = some (.int .i64 ya) := HBC.out.cell 3
      have HC2 : Hid (Wa.cell? ⟨g, o + k * 4 + 2, none⟩ = some (.bool ys)) := Lib.hid ((HAO.out.cell (p := ⟨g, _, none⟩) HGL.out (fun x => x)).trans c2)
      have HC3 : Hid (Wa.cell? ⟨g, o + k * 4 + 3, none⟩ = some (.int .i64 ya)) := Lib.hid ((HAO.out.cell (p := ⟨g, _, none⟩) HGL.out (fun x => x)).trans c3)
      clear c0 c1 c2 c3 k1
      go_cut [46] from 10 to 66 (fun t wx => t = .bool (dueB now iv ⟨yx, ys, ya⟩) ∧ wx = Wa)
      case first =>
        cases ys
        · go_wp2_with fail
          go_meet
          exact ⟨by rw [dueB_eq]; rfl, rfl⟩
        · by_cases hb2 : ya ≤ now - iv
          · have hb2d : decide (ya ≤ now - iv) = true := by simpa using hb2
            go_wp2_with fail
            go_meet
            exact ⟨by rw [dueB_eq, hb2d]; simp, rfl⟩
          · have hb2d : decide (ya ≤ now - iv) = false := by simpa using hb2
            by_cases hb : now < ya
            · have hbd : decide (ya ≤ now) = false := by simpa using hb
              go_wp2_with fail
              go_meet
              exact ⟨by rw [dueB_eq, hbd]; rfl, rfl⟩
            · have hbd : decide (ya ≤ now) = true := by simp; omega
              go_wp2_with fail
              go_meet
              exact ⟨by rw [dueB_eq, hbd, hb2d]; rfl, rfl⟩
      case rest =>
        obtain ⟨rfl, hwc⟩ := hcut
        have hwc := hwc.symm
        subst hwc
        by_cases hd : dueB now iv ⟨yx, ys, ya⟩ = true
        · have HD := Lib.hid hd
          rw [hd]
          have hmk : mark now iv ⟨yx, ys, ya⟩ = ⟨yx, true, now⟩ := by unfold mark; rw [if_pos HD.out]
          have hset : ∀ w', Only Nobody Wa w' → _ := fun w' ho => mmark_set (y' := ⟨yx, true, now⟩) (HOX.out.same (HAO.out.trans ho)) hlen (markTo_get HY.out) rfl
          rw [← hmk, ← markTo_succ HY.out, hmk] at hset
          have HSET := Lib.hid hset
          have HDE : Hid (dueTo now iv (k + 1) S.l = dueTo now iv k S.l ++ [yx]) := Lib.hid (by rw [dueTo_succ HY.out, if_pos HD.out])
          have HKO : Hid (∀ w', Only (· = g) Wa w' → w'.cell? ⟨O, 1, none⟩ = some (.slice (some ⟨g, o, none⟩) N c)) := Lib.hid (fun w' ho => (ho.blk (HOX.out.same HAO.out).blk (fun e => HNE.out e.symm)).cell 1)
          have k1 := HKO.out _ (Only.refl _ _)
          have f2 : Wa.frozen? ⟨g, o + k * 4 + 2, none⟩ = false := (HAO.out.frozen (p := ⟨g, _, none⟩) HGL.out (fun x => x)).trans (HFR.out (k * 4 + 2))
          have f3 : Wa.frozen? ⟨g, o + k * 4 + 3, none⟩ = false := (HAO.out.frozen (p := ⟨g, _, none⟩) HGL.out (fun x => x)).trans (HFR.out (k * 4 + 3))
          have d2 := HC2.out
          have d3 := HC3.out
          have hOg : ¬ O = g := fun e => HNE.out e.symm
          clear hd hmk hset e2 e3
          go_upto_region 7 with fail
          go_cut [] from 10 to 66 (fun wx => MoAt wx O { S with l := markTo now iv (k + 1) S.l } (.slice (some ⟨g, o, none⟩) N c) ∧ Only (· = g) Wa wx)
          case first =>
            go_region
            all_goals
              go_wp2_with fail
              go_meet
              have hs := HSET.out _ (Only.refl _ Wa)
              have ho1 : Only (· = g) Wa ((Wa.setCell ⟨g, o + k * 4 + 2, none⟩ (.bool true)).setCell ⟨g, o + k * 4 + 3, none⟩ (.int .i64 now)) := ((Only.refl (· = g) Wa).setCell (p := ⟨g, o + k * 4 + 2, none⟩) (.inl rfl) _).setCell (p := ⟨g, o + k * 4 + 3, none⟩) (.inl rfl) _
              have ho2 : Only (· = g) Wa ((Wa.setCell ⟨g, o + k * 4 + 3, none⟩ (.int .i64 now)).setCell ⟨g, o + k * 4 + 2, none⟩ (.bool true)) := ((Only.refl (· = g) Wa).setCell (p := ⟨g, o + k * 4 + 3, none⟩) (.inl rfl) _).setCell (p := ⟨g, o + k * 4 + 2, none⟩) (.inl rfl) _
              first
              | exact ⟨hs.1.same (Only.refl _ _).drew, ho1.drew⟩
              | exact ⟨hs.2.same (Only.refl _ _).drew, ho2.drew⟩
              | exact ⟨hs.1, ho1⟩
              | exact ⟨hs.2, ho2⟩
          case rest =>
            obtain ⟨h1, h2⟩ := hcut
            have HOX2 := Lib.hid h1
            have HO2 := Lib.hid h2
            have hbg : b ≠ g := by have h1 := HB.out; have h2 := HGL.out; omega
            have hbc : Blk wc b 97 #[.int .i64 yx.n, .string yx.t, .bool ys, .int .i64 ya] := h2.blk HBC.out hbg
            have e0 : wc.cell? ⟨b, 0, none⟩ = some (.int .i64 yx.n) := hbc.cell 0
            have e1 : wc.cell? ⟨b, 1, none⟩ = some (.string yx.t) := hbc.cell 1
            have hgn : ∀ g', u7.ownBlock = some g' → g' ≠ g := fun g' e => by
              have h1 := (HOWN.out.lt g' e).1
              have h2 := (HO.out.row.lt g rfl).2
              omega
            have HOWN2 : Hid (wc.ownsRow w.heap.size 36 2 u7 (dueTo now iv k S.l).length (itsC (dueTo now iv k S.l))) := Lib.hid (h2.row (HAO.out.row HOWN.out (fun _ _ x => x)) (fun g' e x => hgn g' e x))
            obtain ⟨A7, c7, rfl⟩ := own_form HOWN.out
            obtain ⟨i0, hi0, hz0, hz1, hz2⟩ := info_parts infoIt
            have HR : Hid (Reads (wc.alloc (.cells #[.int .i64 yx.n, .string yx.t] 36)) (wc.heap.size + 1) 2 (some ⟨wc.heap.size, 0, none⟩) 1 yx.cells) := Lib.hid (reads_alloc wc 36 #[.int .i64 yx.n, .string yx.t] 2 1 rfl)
            have HWW : Hid (w.heap.size ≤ wc.heap.size) := Lib.hid (by have h1 := HON.out.size; have h2 := HAO.out.size; have h3 := HO2.out.size; omega)
            have HBB : Hid (w.heap.size ≤ (wc.alloc (.cells #[.int .i64 yx.n, .string yx.t] 36)).heap.size) := Lib.hid (by have h1 := HWW.out; simp; omega)
            have HBY : Hid ((dueTo now iv k S.l).length + 1 ≤ maxLen ∧ ((dueTo now iv k S.l).length + 1) * 24 ≤ 140737488355328) := Lib.hid (by have := dueTo_le now iv k S.l; unfold maxLen; omega)
            have HU : Hid (∀ u ∈ yx.cells, u.oneCell' = true) := Lib.hid (by intro u hu; simp only [It.cells, List.mem_cons, List.not_mem_nil, or_false] at hu; rcases hu with rfl | rfl <;> rfl)
            clear h1 h2 hbg hbc hgn f2 f3 d2 d3 k1
            go_wp2_with (at_builtin; refine wpList_append_any _ rfl (.tmp 62) (.tmp 65) _ rfl w.heap.size 36 i0 _ 2 24 Tryd.underlying29 hi0 hz0 hz1 hz2 rfl (by omega) (.slice A7 (dueTo now iv k S.l).length c7) (dueTo now iv k S.l).length (itsC (dueTo now iv k S.l)) rfl (HOWN2.out.alloc _) _ (some ⟨wc.heap.size, 0, none⟩) 1 1 yx.cells rfl HR.out HU.out HBY.out.1 HBY.out.2 HBB.out ?_
                         intro v2 w3 hown2 hgr2 hat2
                         have HO3 := Lib.hid hown2
                         have HG3 := Lib.hid hgr2
                         clear hown2 hgr2 hat2)
            go_roundw
            case rel =>
              have HOW3 : Hid (Only Nobody wc (wc.alloc (.cells #[.int .i64 yx.n, .string yx.t] 36))) := Lib.hid ((Only.refl _ _).alloc _)
              have HG4 : Hid (Only (fun x => w.heap.size ≤ x) wc w3) := Lib.hid ((HOW3.out.mono (fun _ x => x.elim)).trans (Only.of_grown HG3.out (fun g' e => (HOWN2.out.lt g' e).1)))
              have HOWN3 : Hid (w3.ownsRow w.heap.size 36 2 v2 (dueTo now iv (k + 1) S.l).length (itsC (dueTo now iv (k + 1) S.l))) := Lib.hid (by
                rw [HDE.out, itsC_append, List.length_append, List.length_singleton, show itsC [yx] = yx.cells by simp [itsC]]
                exact HO3.out)
              have HOX3 : Hid (MoAt w3 O { S with l := markTo now iv (k + 1) S.l } (.slice (some ⟨g, o, none⟩) N c)) := Lib.hid (HOX2.out.keep HG4.out (fun k' h1 h2 => by
                have h3 := HO.out.lt k' h1
                omega))
              have HON3 : Hid (Only (OwnO O (.slice (some ⟨g, o, none⟩) N c)) w w3) := Lib.hid (((HON.out.trans (HAO.out.mono (fun _ x => x.elim))).trans (HO2.out.mono (fun x e => .inr (by rw [e]; rfl)))).trans_more (HG4.out.mono (fun x hx => .inr hx)))
              first
              | exact ⟨k + 1, by go_num, by omega, HOWN3, HOX3, HON3⟩
              | ((repeat apply Exists.intro); exact ⟨⟨k + 1, by go_num, by omega, HOWN3, HOX3, HON3⟩, rfl⟩)
            case measure => simp [intOf]; omega
        · have HD := Lib.hid hd
          rw [Bool.not_eq_true] at hd
          rw [hd]
          clear hd e2 e3
          go_wp2_with fail
          go_roundw
          case rel =>
            have hmk : mark now iv ⟨yx, ys, ya⟩ = ⟨yx, ys, ya⟩ := by unfold mark; rw [if_neg HD.out]
            have hde : dueTo now iv (k + 1) S.l = dueTo now iv k S.l := by rw [dueTo_succ HY.out, if_neg HD.out, List.append_nil]
            have hme : markTo now iv (k + 1) S.l = markTo now iv k S.l := by
              rw [markTo_succ HY.out, hmk]
              exact set_same (markTo_get HY.out)
            have HOWN3 : Hid (Wa.ownsRow w.heap.size 36 2 u7 (dueTo now iv (k + 1) S.l).length (itsC (dueTo now iv (k + 1) S.l))) := by rw [hde]; exact Lib.hid (HAO.out.row HOWN.out (fun _ _ x => x))
            have HOX3 : Hid (MoAt Wa O { S with l := markTo now iv (k + 1) S.l } (.slice (some ⟨g, o, none⟩) N c)) := by rw [hme]; exact Lib.hid (HOX.out.same HAO.out)
            have HON3 : Hid (Only (OwnO O (.slice (some ⟨g, o, none⟩) N c)) w Wa) := Lib.hid (HON.out.trans (HAO.out.mono (fun _ x => x.elim)))
            first
            | exact ⟨k + 1, by go_num, by omega, HOWN3, HOX3, HON3⟩
            | ((repeat apply Exists.intro); exact ⟨⟨k + 1, by go_num, by omega, HOWN3, HOX3, HON3⟩, rfl⟩)
          case measure => simp [intOf]; omega
    · obtain rfl : k = M := by omega
      by_cases hN : (k : Int) < (N : Int)
      · have hk64 : ¬ (k : Int) < 64 := by have := HM.out; omega
        go_wp2_with fail
        go_ret
        refine ⟨u7, rfl, ?_, ?_, ?_⟩
        · rw [HNN.out, HM.out]; exact HOWN.out
        · rw [HNN.out, HM.out]; exact HOX.out
        · rw [HNN.out]; exact HON.out
      · go_wp2_with fail
        go_ret
        refine ⟨u7, rfl, ?_, ?_, ?_⟩
        · rw [HNN.out, HM.out]; exact HOWN.out
        · rw [HNN.out, HM.out]; exact HOX.out
        · rw [HNN.out]; exact HON.out
end Go.Proofs.YthmndclmecnpmaaDoor
