/- Network: the law's model; contract of its receive (printed by gen_lkc.py). -/
import Derived.Test.YtbfkmdcjamillaaLkB
namespace Go.Proofs.Ytbfkmdcjamillaa
open Go.RowKit
attribute [local go_sem ↓] Go.wp_at_zero Go.wp_at_succ

theorem filter_step {α : Type} (f : α → Bool) {l : List α} {j : Nat} {y : α} (hy : l[j]? = some y) : (l.take (j + 1)).filter f = (l.take j).filter f ++ (if f y = true then [y] else []) := by
  have hk : j < l.length := (List.getElem?_eq_some_iff.1 hy).1
  have e : l[j] = y := by rw [List.getElem?_eq_getElem hk] at hy; exact Option.some.inj hy
  rw [List.take_succ_eq_append_getElem hk, e, List.filter_append, List.filter_cons, List.filter_nil]
def outsT (P : List Pc) (s : ByteArray) (k j : Nat) : List Cp := ((P.take j).filter (outB s k)).map Pc.cp
def restT (P : List Pc) (s : ByteArray) (k j : Nat) : List Pc := (P.take j).filter fun p => !outB s k p
theorem outsT_yes {P : List Pc} {s : ByteArray} {k j : Nat} {y : Pc} (hy : P[j]? = some y) (h : outB s k y = true) : outsT P s k (j + 1) = outsT P s k j ++ [y.cp] ∧ restT P s k (j + 1) = restT P s k j := by
  unfold outsT restT
  rw [filter_step _ hy, filter_step _ hy, if_pos h, if_neg (by rw [h]; simp)]
  simp
theorem outsT_no {P : List Pc} {s : ByteArray} {k j : Nat} {y : Pc} (hy : P[j]? = some y) (h : outB s k y = false) : outsT P s k (j + 1) = outsT P s k j ∧ restT P s k (j + 1) = restT P s k j ++ [y] := by
  unfold outsT restT
  rw [filter_step _ hy, filter_step _ hy, if_neg (by rw [h]; simp), if_pos (by rw [h]; rfl)]
  simp
theorem outB_of {s : ByteArray} {k : Nat} {y : Pc} {p q : Bool} (hp : (y.to_.toList == s.toList) = p) (hq : (y.at_ == (k : Int)) = q) : outB s k y = (p && q) := by
  rw [eq_list] at hp
  unfold outB
  rw [hp, ← hq]
  congr 1
theorem outsT_len (P : List Pc) (s : ByteArray) (k j : Nat) : (outsT P s k j).length ≤ P.length := by
  unfold outsT
  rw [List.length_map]
  refine Nat.le_trans (List.length_filter_le _ _) ?_
  rw [List.length_take]; omega
theorem restT_len (P : List Pc) (s : ByteArray) (k j : Nat) : (restT P s k j).length ≤ P.length := by
  unfold restT
  refine Nat.le_trans (List.length_filter_le _ _) ?_
  rw [List.length_take]; omega
theorem outR_len (s : ByteArray) {P : List Pc} (h0 : ∀ p ∈ P, 0 ≤ p.at_) (n : Nat) : (outR P s n).length ≤ P.length := by
  rw [(outR_perm s h0 n).length_eq, List.length_map]
  exact List.length_filter_le _ _
theorem own_base {w : World} {base base' : Nat} {e : TypeId} {size n : Nat} {v : Value} {xs : List Value} (h : w.ownsRow base e size v n xs) (hb : base' ≤ base) : w.ownsRow base' e size v n xs := by
  refine ⟨h.1, ?_⟩
  rcases h.2 with h0 | ⟨g, cap, cur, hv, h1, h2⟩
  · exact .inl h0
  · exact .inr ⟨g, cap, cur, hv, by omega, h2⟩
def OutRow (w wx : World) (v : Value) (l : List Cp) : Prop := wx.ownsRow w.heap.size 38 2 v l.length (pksOf l)
def RestRow (w wx : World) (v : Value) (l : List Pc) : Prop := wx.ownsRow w.heap.size 85 4 v l.length (pcC l)
/-- A round that puts a packet out. -/
theorem put_out {w wr wx w1 w2 : World} {M : Nat} {L : LinkS} {vs vp vc vo vr v2 : Value} {l : List Cp} {r : List Pc} {y : Cp} (hL : LkAt wx M L vs vp vc) (hO : OutRow w wx vo l) (hR : RestRow wr wx vr r) (ho1 : Only Nobody wx w1)
    (hg : Only (fun k => vo.ownBlock = some k) w1 w2) (hrow : w2.ownsRow w.heap.size 38 2 v2 (l.length + 1) (pksOf l ++ pkCells y)) :
    LkAt w2 M L vs vp vc ∧ OutRow w w2 v2 (l ++ [y]) ∧ RestRow wr w2 vr r ∧ Only (fun k => vo.ownBlock = some k) wx w2 := by
  have ho : Only (fun k => vo.ownBlock = some k) wx w2 := (ho1.mono (fun _ x => x.elim)).trans hg
  have hne : ∀ (t : TypeId) (cs : Array Value) (k : Nat), t ≠ 38 → Blk wx k t cs → ¬ vo.ownBlock = some k := fun t cs k ht hb e => by
    obtain ⟨cs2, hb2⟩ := row_type hO e
    exact Blk.ne_ hb hb2 ht rfl
  refine ⟨hL.keep ho (fun k hk => ?_), ?_, ho.row hR (fun k e => ?_), ho⟩
  · rcases hk with rfl | e | e | e
    · exact hne _ _ _ (by decide) hL.blk
    · obtain ⟨cs, hb⟩ := row_type hL.scr e
      exact hne _ _ _ (by decide) hb
    · obtain ⟨cs, hb⟩ := row_type hL.pcs e
      exact hne _ _ _ (by decide) hb
    · obtain ⟨cs, hb⟩ := row_type hL.cts e
      exact hne _ _ _ (by decide) hb
  · unfold OutRow
    rw [List.length_append, List.length_singleton, pksOf_append, show pksOf [y] = pkCells y by simp [pksOf]]
    exact hrow
  · obtain ⟨cs, hb⟩ := row_type hR e
    exact hne _ _ _ (by decide) hb
/-- A round that puts a piece back. -/
theorem put_rest {w wr wx w1 w2 : World} {M : Nat} {L : LinkS} {vs vp vc vo vr v2 : Value} {l : List Cp} {r : List Pc} {y : Pc} (hL : LkAt wx M L vs vp vc) (hO : OutRow w wx vo l) (hR : RestRow wr wx vr r) (hM : ∀ k, OwnL M vs vp vc k → k < wr.heap.size) (ho1 : Only Nobody wx w1)
    (hg : Only (fun k => vr.ownBlock = some k) w1 w2) (hrow : w2.ownsRow wr.heap.size 85 4 v2 (r.length + 1) (pcC r ++ pcCells y)) :
    LkAt w2 M L vs vp vc ∧ OutRow w w2 vo l ∧ RestRow wr w2 v2 (r ++ [y]) ∧ Only (fun k => vr.ownBlock = some k) wx w2 := by
  have ho : Only (fun k => vr.ownBlock = some k) wx w2 := (ho1.mono (fun _ x => x.elim)).trans hg
  refine ⟨hL.keep ho (fun k hk e => ?_), ho.row hO (fun k e e2 => ?_), ?_, ho⟩
  · have h1 := (hR.lt k e).1
    have h2 := hM k hk
    omega
  · obtain ⟨cs, hb⟩ := row_type hO e
    obtain ⟨cs2, hb2⟩ := row_type hR e2
    exact Blk.ne_ hb hb2 (by decide) rfl
  · unfold RestRow
    rw [List.length_append, List.length_singleton, show pcC (r ++ [y]) = pcC r ++ pcCells y by simp [pcC]]
    exact hrow
/-- The pieces laid back into the model. -/
theorem lay_back {w wr wx : World} {M : Nat} {L : LinkS} {vs vp vc vo vr : Value} {l : List Cp} {r : List Pc} (hL : LkAt wx M L vs vp vc) (hO : OutRow w wx vo l) (hR : RestRow wr wx vr r) (hM : M < w.heap.size) (hw : w.heap.size ≤ wr.heap.size) :
    LkAt (wx.setCell ⟨M, 4, none⟩ vr) M { L with pcs := r } vs vr vc ∧ OutRow w (wx.setCell ⟨M, 4, none⟩ vr) vo l ∧ ∀ u, NewOf u vr w := by
  have hS : Only (· = M) wx (wx.setCell ⟨M, 4, none⟩ vr) := (Only.refl (· = M) wx).setCell (p := ⟨M, 4, none⟩) (.inl rfl) vr
  refine ⟨⟨hL.blk.set_ 4 vr, hS.row hL.scr (fun g e hg => hL.neS (by rw [e, hg])), ?_, hS.row hL.cts (fun g e hg => hL.neC (by rw [e, hg]))⟩, hS.row hO (fun k e hk => ?_), fun _ k e => .inr ?_⟩
  · refine hS.row (own_base hR (Nat.zero_le _)) (fun k e hk => ?_)
    have := (hR.lt k e).1
    omega
  · have := (hO.lt k e).1
    omega
  · have := (hR.lt k e).1
    omega
def MRecvPost (M : Nat) (vs vp vc : Value) (r : List Cp × LinkS) (w : World) (e : Ending) (w' : World) : Prop :=
  ∃ v, e = .returned v ∧ OutRow w w' v r.1 ∧ ∃ vp', LkAt w' M r.2 vs vp' vc ∧ Only (fun k => k = M) w w' ∧ NewOf vp vp' w

set_option maxRecDepth 100000 in
set_option maxHeartbeats 4000000 in
theorem mreceive_any (M : Nat) (L : LinkS) (vs vp vc : Value) (s : ByteArray) (w : World) (h : LkAt w M L vs vp vc) (hpl : L.pcs.length ≤ 4000) (hnow : L.now ≤ 100000) (h0 : ∀ p ∈ L.pcs, 0 ≤ p.at_) : Calls Try.prog 40 #[.pointer (some ⟨M, 0, none⟩), .string s] w (MRecvPost M vs vp vc (mRecv L s) w) := by
  have H := Lib.hid h
  have H0 := Lib.hid h0
  obtain ⟨T, HT⟩ : ∃ T, Hid (L.now = T) := ⟨_, Lib.hid rfl⟩
  rw [HT.out] at hnow
  have hMw : M < w.heap.size := h.blk.lt
  obtain ⟨ik, hik, hk0, hk1, hk2⟩ := info_parts infoPk
  obtain ⟨ic, hic, hc0, hc1, hc2⟩ := info_parts infoPc
  clear h h0
  go_enter Try.func40, Try.ntmps40
  go_wp2_with fail
  go_loopw [5, 6] (fun o i wx => ∃ (k : Nat) (v' : Value), i = .int .i64 (k : Int) ∧ k ≤ T + 1 ∧ Hid (OutRow w wx o (outR L.pcs s k)) ∧ Hid (LkAt wx M { L with pcs := restN L.pcs s k } vs v' vc) ∧ Hid (Only (fun b => b = M) w wx) ∧ Hid (NewOf vp v' w)) (fun _ i _ => T + 1 - (intOf i).toNat)
  case atStart =>
    refine ⟨0, vp, rfl, Nat.zero_le _, Lib.hid (World.ownsRow_nil _ _ _ _), Lib.hid ?_, Lib.hid (Only.refl _ _), Lib.hid (fun _ e => .inl e)⟩
    rw [restN_zero H0.out]
    exact H.out
  case round =>
    obtain ⟨k, v1, rfl, hk, HOR, HLK, HOW, HNW⟩ := hrel
    obtain ⟨wr0, rfl⟩ : ∃ x : World, x = wr := ⟨_, rfl⟩
    have k1 : wr0.cell? ⟨M, 1, none⟩ = some (.int .i64 (T : Int)) := by
      have := HLK.out.blk.cell 1
      rw [← HT.out]
      exact this
    by_cases hkT : k < T + 1
    · have hkI : (k : Int) ≤ (T : Int) := by omega
      have hk0' : (0 : Int) ≤ (k : Int) := by omega
      obtain ⟨P1, HP1⟩ : ∃ P1, Hid (restN L.pcs s k = P1) := ⟨_, Lib.hid rfl⟩
      obtain ⟨O, HO⟩ : ∃ O, Hid (outR L.pcs s k = O) := ⟨_, Lib.hid rfl⟩
      have hOl : O.length ≤ 4000 := by rw [← HO.out]; exact Nat.le_trans (outR_len s H0.out k) hpl
      have hPl : P1.length ≤ 4000 := by rw [← HP1.out]; exact Nat.le_trans (List.length_filter_le _ _) hpl
      rw [HO.out] at HOR
      rw [HP1.out] at HLK
      obtain ⟨N1, HN1⟩ : ∃ N1, Hid (P1.length = N1) := ⟨_, Lib.hid rfl⟩
      have HWW : Hid (w.heap.size ≤ wr0.heap.size) := Lib.hid HOW.out.size
      obtain ⟨Ap, cp, rfl⟩ : ∃ A c, v1 = .slice A N1 c := by
        have := own_form HLK.out.pcs
        rw [show ({ L with pcs := P1 } : LinkS).pcs.length = N1 from HN1.out] at this
        exact this
      have HLT : Hid (∀ b, OwnL M vs (.slice Ap N1 cp) vc b → b < wr0.heap.size) := Lib.hid HLK.out.lt
      obtain ⟨voi, HVO⟩ : ∃ v, Hid (v = (.slice none 0 0 : Value)) := ⟨_, Lib.hid rfl⟩
      go_wp2_with fail
      go_loopw [5, 7, 8] (fun o r i wx => ∃ (j : Nat), i = .int .i64 (j : Int) ∧ j ≤ N1 ∧ Hid (LkAt wx M { L with pcs := P1 } vs (.slice Ap N1 cp) vc) ∧ Hid (OutRow w wx o (O ++ outsT P1 s k j)) ∧ Hid (RestRow wr0 wx r (restT P1 s k j)) ∧ Hid (Only (fun b => b = M) w wx) ∧ Hid (wr0.heap.size ≤ wx.heap.size)) (fun _ _ i _ => N1 - (intOf i).toNat)
      case atStart =>
        refine ⟨0, rfl, Nat.zero_le _, HLK, Lib.hid ?_, Lib.hid (World.ownsRow_nil _ _ _ _), HOW, Lib.hid (Nat.le_refl _)⟩
        have : O ++ outsT P1 s k 0 = O := by simp [outsT]
        rw [this]
        exact HOR.out
      case round =>
        obtain ⟨j, rfl, hj, HL2, HO2, HR2, HW2, HSZ⟩ := hrel
        obtain ⟨OL, HOL⟩ : ∃ OL, Hid (O ++ outsT P1 s k j = OL) := ⟨_, Lib.hid rfl⟩
        obtain ⟨RL, HRL⟩ : ∃ RL, Hid (restT P1 s k j = RL) := ⟨_, Lib.hid rfl⟩
        rw [HOL.out] at HO2
        rw [HRL.out] at HR2
        have hol : OL.length ≤ 8000 := by
          rw [← HOL.out, List.length_append]
          have := outsT_len P1 s k j
          omega
        have hrl : RL.length ≤ 4000 := by
          rw [← HRL.out]
          have := restT_len P1 s k j
          omega
        obtain ⟨ON, HON⟩ : ∃ ON, Hid (OL.length = ON) := ⟨_, Lib.hid rfl⟩
        obtain ⟨RN, HRN⟩ : ∃ RN, Hid (RL.length = RN) := ⟨_, Lib.hid rfl⟩
        rw [HON.out] at hol
        rw [HRN.out] at hrl
        obtain ⟨Ao, co, hvo⟩ := own_form HO2.out
        obtain ⟨Ar, cr, hvr⟩ := own_form HR2.out
        rw [HON.out] at hvo
        rw [HRN.out] at hvr
        subst hvo
        subst hvr
        have k4 : wr.cell? ⟨M, 4, none⟩ = some (.slice Ap N1 cp) := HL2.out.blk.cell 4
        by_cases hjN : j < N1
        · have hjI : (j : Int) < (N1 : Int) := by omega
          have hj0 : (0 : Int) ≤ (j : Int) := by omega
          have hj4 : (j : Int) ≤ 4000 := by have := HN1.out; omega
          obtain ⟨y, hy⟩ : ∃ y, P1[j]? = some y := ⟨_, List.getElem?_eq_getElem (by rw [HN1.out]; exact hjN)⟩
          have HY := Lib.hid hy
          have hcl := RowAt.of_own HL2.out.pcs
          rw [show ({ L with pcs := P1 } : LinkS).pcs.length = N1 from HN1.out] at hcl
          obtain ⟨g, og, c', hv, _, hgl, _, hcc, _⟩ := hcl.cell (by omega)
          injection hv with hv1 hv2 hv3
          subst hv1; subst hv3
          have c0 : wr.cell? ⟨g, og + j * 4, none⟩ = some (.int .i64 y.at_) := hcc (j * 4 + 0) _ (flat_get pcCells 4 (fun _ => rfl) _ j 0 y hy (by omega))
          have c1 : wr.cell? ⟨g, og + j * 4 + 1, none⟩ = some (.string y.fr) := hcc (j * 4 + 1) _ (flat_get pcCells 4 (fun _ => rfl) _ j 1 y hy (by omega))
          have c2 : wr.cell? ⟨g, og + j * 4 + 2, none⟩ = some (.string y.to_) := hcc (j * 4 + 2) _ (flat_get pcCells 4 (fun _ => rfl) _ j 2 y hy (by omega))
          have c3 : wr.cell? ⟨g, og + j * 4 + 3, none⟩ = some (.string y.da) := hcc (j * 4 + 3) _ (flat_get pcCells 4 (fun _ => rfl) _ j 3 y hy (by omega))
          have HWR : Hid (w.heap.size ≤ wr0.heap.size) := HWW
          have HWX : Hid (w.heap.size ≤ wr.heap.size) := Lib.hid HW2.out.size
          obtain ⟨p, hp⟩ : ∃ p, (y.to_.toList == s.toList) = p := ⟨_, rfl⟩
          obtain ⟨q, hq⟩ : ∃ q, (y.at_ == (k : Int)) = q := ⟨_, rfl⟩
          have HH := Lib.hid (outB_of hp hq)
          clear hcc hcl hy
          cases p with
          | true =>
            cases q with
            | true =>
              have HYN : Hid (O ++ outsT P1 s k (j + 1) = OL ++ [y.cp] ∧ restT P1 s k (j + 1) = RL) := Lib.hid (by
                obtain ⟨a1, a2⟩ := outsT_yes HY.out (HH.out.trans (by rfl))
                rw [a1, a2, ← HOL.out, ← HRL.out, List.append_assoc]
                exact ⟨rfl, rfl⟩)
              have HR1 : Hid (∀ o : Obj, Reads ((wr.alloc o).alloc (.cells #[.string y.fr, .string y.da] 38)) (wr.heap.size + 1 + 1) 2 (some ⟨wr.heap.size + 1, 0, none⟩) 1 (pkCells y.cp)) := Lib.hid fun o => by
                have := reads_alloc (wr.alloc o) 38 (pkCells y.cp).toArray 2 1 rfl
                simp only [World.size_alloc] at this
                exact this
              have HV1 : Hid (wr.ownsRow w.heap.size 38 2 (.slice Ao ON co) ON (pksOf OL)) := Lib.hid (by have := HO2.out; unfold OutRow at this; rw [HON.out] at this; exact this)
              have HGE : Hid (∀ b, (Value.slice Ao ON co).ownBlock = some b → w.heap.size ≤ b) := Lib.hid fun b e => (HV1.out.lt b e).1
              have hwx : w.heap.size ≤ wr.heap.size := HWX.out
              go_wp2_with (at_builtin
                           refine wpList_append_any _ rfl (.tmp 44) (.tmp 50) _ rfl w.heap.size 38 ik _ 2 32 Try.underlying34 hik hk0 hk1 hk2 rfl (by omega) (.slice Ao ON co) ON (pksOf OL) rfl ((HV1.out.alloc _).alloc _) _ (some ⟨wr.heap.size + 1, 0, none⟩) 1 1 (pkCells y.cp) rfl (HR1.out _) (by intro u hu; simp only [pkCells, List.mem_cons, List.not_mem_nil, or_false] at hu; rcases hu with rfl | rfl <;> rfl) (by unfold maxLen; omega) (by omega) (by simp; omega) ?_
                           intro v2 w2 hown2 hg2 hat2
                           have HO3 := Lib.hid hown2
                           have HG3 := Lib.hid hg2
                           clear hown2 hg2 hat2)
              have hE := put_out (y := y.cp) HL2.out HO2.out HR2.out (((Only.refl Nobody wr).alloc _).alloc _) (Only.of_grown HG3.out (fun k e => e)) (by rw [HON.out]; exact HO3.out)
              obtain ⟨h1, h2, h3, h4⟩ := hE
              have H1 := Lib.hid h1
              have H2 : Hid (OutRow w w2 _ (O ++ outsT P1 s k (j + 1))) := Lib.hid (by rw [HYN.out.1]; exact h2)
              have H3 : Hid (RestRow wr0 w2 _ (restT P1 s k (j + 1))) := Lib.hid (by rw [HYN.out.2]; exact h3)
              have H4 : Hid (Only (fun b => b = M) w w2) := Lib.hid (HW2.out.trans_more (h4.mono (fun b e => .inr (HGE.out b e))))
              have H5 : Hid (wr0.heap.size ≤ w2.heap.size) := Lib.hid (Nat.le_trans HSZ.out h4.size)
              clear h1 h2 h3 h4
              go_roundw
              case rel =>
                first
                | exact ⟨j + 1, by go_num, by omega, H1, H2, H3, H4, H5⟩
                | ((repeat apply Exists.intro); exact ⟨⟨j + 1, by go_num, by omega, H1, H2, H3, H4, H5⟩, rfl⟩)
              case measure => simp [intOf]; omega
            | false =>
              have HYN : Hid (O ++ outsT P1 s k (j + 1) = OL ∧ restT P1 s k (j + 1) = RL ++ [y]) := Lib.hid (by
                obtain ⟨a1, a2⟩ := outsT_no HY.out (HH.out.trans (by rfl))
                rw [a1, a2, ← HOL.out, ← HRL.out]
                exact ⟨rfl, rfl⟩)
              have HR1 : Hid (∀ o : Obj, Reads ((wr.alloc o).alloc (.cells #[.int .i64 y.at_, .string y.fr, .string y.to_, .string y.da] 85)) (wr.heap.size + 1 + 1) 4 (some ⟨wr.heap.size + 1, 0, none⟩) 1 (pcCells y)) := Lib.hid fun o => by
                have := reads_alloc (wr.alloc o) 85 (pcCells y).toArray 4 1 rfl
                simp only [World.size_alloc] at this
                exact this
              have HV1 : Hid (wr.ownsRow wr0.heap.size 85 4 (.slice Ar RN cr) RN (pcC RL)) := Lib.hid (by have := HR2.out; unfold RestRow at this; rw [HRN.out] at this; exact this)
              have HGE : Hid (∀ b, (Value.slice Ar RN cr).ownBlock = some b → w.heap.size ≤ b) := Lib.hid fun b e => Nat.le_trans HWW.out (HV1.out.lt b e).1
              have hwx : wr0.heap.size ≤ wr.heap.size := HSZ.out
              go_wp2_with (at_builtin
                           refine wpList_append_any _ rfl (.tmp 52) (.tmp 54) _ rfl wr0.heap.size 85 ic _ 4 56 Try.underlying46 hic hc0 hc1 hc2 rfl (by omega) (.slice Ar RN cr) RN (pcC RL) rfl ((HV1.out.alloc _).alloc _) _ (some ⟨wr.heap.size + 1, 0, none⟩) 1 1 (pcCells y) rfl (HR1.out _) (by intro u hu; simp only [pcCells, List.mem_cons, List.not_mem_nil, or_false] at hu; rcases hu with rfl | rfl | rfl | rfl <;> rfl) (by unfold maxLen; omega) (by omega) (by simp; omega) ?_
                           intro v2 w2 hown2 hg2 hat2
                           have HO3 := Lib.hid hown2
                           have HG3 := Lib.hid hg2
                           clear hown2 hg2 hat2)
              have hE := put_rest (y := y) HL2.out HO2.out HR2.out HLT.out (((Only.refl Nobody wr).alloc _).alloc _) (Only.of_grown HG3.out (fun k e => e)) (by rw [HRN.out]; exact HO3.out)
              obtain ⟨h1, h2, h3, h4⟩ := hE
              have H1 := Lib.hid h1
              have H2 : Hid (OutRow w w2 _ (O ++ outsT P1 s k (j + 1))) := Lib.hid (by rw [HYN.out.1]; exact h2)
              have H3 : Hid (RestRow wr0 w2 _ (restT P1 s k (j + 1))) := Lib.hid (by rw [HYN.out.2]; exact h3)
              have H4 : Hid (Only (fun b => b = M) w w2) := Lib.hid (HW2.out.trans_more (h4.mono (fun b e => .inr (HGE.out b e))))
              have H5 : Hid (wr0.heap.size ≤ w2.heap.size) := Lib.hid (Nat.le_trans HSZ.out h4.size)
              clear h1 h2 h3 h4
              go_roundw
              case rel =>
                first
                | exact ⟨j + 1, by go_num, by omega, H1, H2, H3, H4, H5⟩
                | ((repeat apply Exists.intro); exact ⟨⟨j + 1, by go_num, by omega, H1, H2, H3, H4, H5⟩, rfl⟩)
              case measure => simp [intOf]; omega
          | false =>
            have HYN : Hid (O ++ outsT P1 s k (j + 1) = OL ∧ restT P1 s k (j + 1) = RL ++ [y]) := Lib.hid (by
              obtain ⟨a1, a2⟩ := outsT_no HY.out (HH.out.trans (by rfl))
              rw [a1, a2, ← HOL.out, ← HRL.out]
              exact ⟨rfl, rfl⟩)
            have HR1 : Hid (∀ o : Obj, Reads ((wr.alloc o).alloc (.cells #[.int .i64 y.at_, .string y.fr, .string y.to_, .string y.da] 85)) (wr.heap.size + 1 + 1) 4 (some ⟨wr.heap.size + 1, 0, none⟩) 1 (pcCells y)) := Lib.hid fun o => by
              have := reads_alloc (wr.alloc o) 85 (pcCells y).toArray 4 1 rfl
              simp only [World.size_alloc] at this
              exact this
            have HV1 : Hid (wr.ownsRow wr0.heap.size 85 4 (.slice Ar RN cr) RN (pcC RL)) := Lib.hid (by have := HR2.out; unfold RestRow at this; rw [HRN.out] at this; exact this)
            have HGE : Hid (∀ b, (Value.slice Ar RN cr).ownBlock = some b → w.heap.size ≤ b) := Lib.hid fun b e => Nat.le_trans HWW.out (HV1.out.lt b e).1
            have hwx : wr0.heap.size ≤ wr.heap.size := HSZ.out
            go_wp2_with (at_builtin
                         refine wpList_append_any _ rfl (.tmp 52) (.tmp 54) _ rfl wr0.heap.size 85 ic _ 4 56 Try.underlying46 hic hc0 hc1 hc2 rfl (by omega) (.slice Ar RN cr) RN (pcC RL) rfl ((HV1.out.alloc _).alloc _) _ (some ⟨wr.heap.size + 1, 0, none⟩) 1 1 (pcCells y) rfl (HR1.out _) (by intro u hu; simp only [pcCells, List.mem_cons, List.not_mem_nil, or_false] at hu; rcases hu with rfl | rfl | rfl | rfl <;> rfl) (by unfold maxLen; omega) (by omega) (by simp; omega) ?_
                         intro v2 w2 hown2 hg2 hat2
                         have HO3 := Lib.hid hown2
                         have HG3 := Lib.hid hg2
                         clear hown2 hg2 hat2)
            have hE := put_rest (y := y) HL2.out HO2.out HR2.out HLT.out (((Only.refl Nobody wr).alloc _).alloc _) (Only.of_grown HG3.out (fun k e => e)) (by rw [HRN.out]; exact HO3.out)
            obtain ⟨h1, h2, h3, h4⟩ := hE
            have H1 := Lib.hid h1
            have H2 : Hid (OutRow w w2 _ (O ++ outsT P1 s k (j + 1))) := Lib.hid (by rw [HYN.out.1]; exact h2)
            have H3 : Hid (RestRow wr0 w2 _ (restT P1 s k (j + 1))) := Lib.hid (by rw [HYN.out.2]; exact h3)
            have H4 : Hid (Only (fun b => b = M) w w2) := Lib.hid (HW2.out.trans_more (h4.mono (fun b e => .inr (HGE.out b e))))
            have H5 : Hid (wr0.heap.size ≤ w2.heap.size) := Lib.hid (Nat.le_trans HSZ.out h4.size)
            clear h1 h2 h3 h4
            go_roundw
            case rel =>
              first
              | exact ⟨j + 1, by go_num, by omega, H1, H2, H3, H4, H5⟩
              | ((repeat apply Exists.intro); exact ⟨⟨j + 1, by go_num, by omega, H1, H2, H3, H4, H5⟩, rfl⟩)
            case measure => simp [intOf]; omega
        · obtain rfl : j = N1 := by omega
          have HE1 : Hid (outR L.pcs s (k + 1) = OL) := Lib.hid (by
            rw [outR_succ, ← outK_rest, HP1.out, HO.out, ← HOL.out]
            unfold outK outsT
            rw [List.take_of_length_le (by rw [HN1.out]; exact Nat.le_refl _)])
          have HE2 : Hid (restN L.pcs s (k + 1) = RL) := Lib.hid (by
            rw [restN_succ, HP1.out, ← HRL.out]
            unfold restT
            rw [List.take_of_length_le (by rw [HN1.out]; exact Nat.le_refl _)])
          have hO3 : OutRow w wr (.slice Ao ON co) OL := HO2.out
          have hB := lay_back HL2.out hO3 HR2.out hMw HWW.out
          have HB := Lib.hid hB
          have hfz : wr.frozen? ⟨M, 4, none⟩ = false := HL2.out.blk.frozen 4
          have hMr : M < wr.heap.size := HL2.out.blk.lt
          have HW3 : Hid (Only (fun b => b = M) w (wr.setCell ⟨M, 4, none⟩ (.slice Ar RN cr))) := Lib.hid (HW2.out.setCell (p := ⟨M, 4, none⟩) (.inl rfl) _)
          clear hB hO3
          go_wp2_with fail
          go_roundw
          case rel =>
            first
            | exact ⟨k + 1, _, by go_num, by omega, Lib.hid (by rw [HE1.out]; exact HB.out.2.1), Lib.hid (by rw [HE2.out]; exact HB.out.1), HW3, Lib.hid (HB.out.2.2 vp)⟩
            | ((repeat apply Exists.intro); exact ⟨⟨k + 1, _, by go_num, by omega, Lib.hid (by rw [HE1.out]; exact HB.out.2.1), Lib.hid (by rw [HE2.out]; exact HB.out.1), HW3, Lib.hid (HB.out.2.2 vp)⟩, rfl⟩)
          case measure => simp [intOf]; omega
    · obtain rfl : k = T + 1 := by omega
      have HF1 : Hid ((mRecv L s).1 = outR L.pcs s (T + 1)) := Lib.hid (by unfold mRecv; rw [HT.out])
      have HF2 : Hid ((mRecv L s).2 = { L with pcs := restN L.pcs s (T + 1) }) := Lib.hid (by unfold mRecv; rw [HT.out])
      go_wp2_with fail
      go_ret
      exact ⟨_, rfl, by rw [HF1.out]; exact HOR.out, v1, by rw [HF2.out]; exact HLK.out, HOW.out, HNW.out⟩
end Go.Proofs.Ytbfkmdcjamillaa
