/- The walks of Cut and Join. -/
import Derived.Test.YthmndclmecnpmaaDoorWNetN
namespace Go.Proofs.YthmndclmecnpmaaDoor.Nw
open Go.RowKit Go.Maps

def NetS.link_ (S : NetS) (a b : ByteArray) (v : Bool) (k : Nat) : NetS := { S with cut := fun x y => if x = (linkS a b).1 ∧ y = (linkS a b).2 then v else S.cut x y, ncut := S.ncut + k }

set_option maxRecDepth 100000 in
theorem cut_turn {w w' : World} {F : Nat → Prop} {N : Nat} {S : NetS} {sv : Value} {mT mC nT nC nC' k : Nat} {DT DC DC' : DataW Unit} {box : ByteArray → Nat} {fq : ByteArray → Nat → Prop} {a b : ByteArray} {v : Bool}
    (h : NetParts w F N S sv mT mC nT nC DT DC box fq) (ho : Only (· = mC) w w') (hm : w'.ownsMap Tryd.prog 114 (plainElem Tryd.prog 4) mC nC' DC') (hn : nC' ≤ S.ncut + k) (ha : a.size ≤ maxLen) (hb : b.size ≤ maxLen)
    (hsame : DC'.atKey (klp (linkS a b).1 (linkS a b).2) (.lit (.bool false)) = .lit (.bool v)) (hoth : ∀ l, l ≠ klp (linkS a b).1 (linkS a b).2 → DC'.atKey l (.lit (.bool false)) = DC.atKey l (.lit (.bool false))) : NetAt w' F N (S.link_ a b v k) := by
  have hNC : N ≠ mC := by
    rintro rfl
    obtain ⟨es, clock, hm, _⟩ := h.mc
    have := h.blk
    unfold Blk at this
    rw [hm] at this
    cases this
  have hsC : ∀ g, sv.ownBlock = some g → g ≠ mC := by
    rintro g hgo rfl
    obtain ⟨es, clock, hm, _⟩ := h.mc
    rcases h.scr.2 with ⟨h1, _⟩ | ⟨g', cap', cur, hv, hb', hh, _⟩
    · rw [h1] at hgo; cases hgo
    · rw [hv] at hgo
      simp only [Value.ownBlock, Option.some.injEq] at hgo
      subst hgo
      rw [hm] at hh
      cases hh
  obtain ⟨hl1, hl2⟩ := linkS_small ha hb
  refine ⟨sv, mT, mC, nT, nC', DT, DC', box, fq, ho.blk h.blk hNC, h.fN, h.fT, h.fC, ho.row h.scr hsC, h.fS, ho.map_ h.mt h.tc, hm, h.hT, hn, h.tc, h.useLe, h.keys, h.nodup, h.small, h.at_, ?_, h.rest, ?_, h.fq_ne, ?_⟩
  · exact fun s hs => (h.box s hs).keep ho (fun b hb => (h.fq_in s b hb).2.2.2.2.1)
  · exact fun s b hb => ⟨(h.fq_in s b hb).1, Nat.lt_of_lt_of_le (h.fq_in s b hb).2.1 ho.size, (h.fq_in s b hb).2.2⟩
  · intro x y hx hy
    unfold NetS.link_
    by_cases e : x = (linkS a b).1 ∧ y = (linkS a b).2
    · simp only [e, and_self, if_true]
      exact hsame
    · simp only [if_neg e]
      rw [hoth _ (fun hk => e (klp_inj hx hy hl1 hl2 hk))]
      exact h.cuts x y hx hy

set_option maxRecDepth 100000 in
set_option maxHeartbeats 1000000 in
theorem cut_nil (a b : ByteArray) (w : World) : Calls Tryd.prog 43 #[.pointer none, .string a, .string b] w fun e w' => e = .returned (.tuple #[]) ∧ w = w' := by
  go_enter Tryd.func43, Tryd.ntmps43
  go_wp2
  go_end0
  exact ⟨rfl, rfl⟩
set_option maxRecDepth 100000 in
set_option maxHeartbeats 1000000 in
theorem join_nil (a b : ByteArray) (w : World) : Calls Tryd.prog 44 #[.pointer none, .string a, .string b] w fun e w' => e = .returned (.tuple #[]) ∧ w = w' := by
  go_enter Tryd.func44, Tryd.ntmps44
  go_wp2
  go_end0
  exact ⟨rfl, rfl⟩

set_option maxRecDepth 100000 in
set_option maxHeartbeats 1000000 in
theorem cut_at (N : Nat) (a b : ByteArray) (F : Nat → Prop) (S : NetS) (w : World) (h : NetAt w F N S) (ha : a.size ≤ maxLen) (hb : b.size ≤ maxLen) (hc : S.ncut ≤ 1000000000) :
    Calls Tryd.prog 43 #[.pointer (some ⟨N, 0, none⟩), .string a, .string b] w fun e w' => e = .returned (.tuple #[]) ∧ NetAt w' F N (S.link_ a b true 1) ∧ Only F w w' := by
  obtain ⟨sv, mT, mC, nT, nC, DT, DC, box, fq, h⟩ := h
  have k6 : w.cell? ⟨N, 6, none⟩ = some (.map (some mC)) := h.blk.cell 6
  have hnC : nC < maxLen := by have := h.hC; unfold maxLen; omega
  have H := Lib.hid h
  have HA := Lib.hid ha
  have HB := Lib.hid hb
  have HC := Lib.hid hnC
  have HZ := Lib.hid (linkS_small ha hb)
  clear h ha hb hnC
  go_enter Tryd.func43, Tryd.ntmps43
  go_wp2_with fail
  go_region_with (go_at_call 57; refine (link_any a b _).mono ?_; rintro e w4 ⟨rfl, hb4⟩; have HB4 := Lib.hid (Only.of_below hb4 Nobody); clear hb4; have k64 : w4.cell? ⟨N, 6, none⟩ = some (.map (some mC)) := (HB4.out.blk (H.out.blk.drew) (fun x => x)).cell 6; obtain ⟨w5, hrun, hown5, hgrow5⟩ := (HB4.out.map_ (World.ownsMap.drew H.out.mc) (fun x => x)).update keyP Tryd.underlying106 HC.out (key_klp HZ.out.1 HZ.out.2) (plainElem_bool Tryd.underlying4 true); have HO5 := Lib.hid hown5; have HG5 := Lib.hid hgrow5; clear hown5 hgrow5)
  all_goals
    go_wp2
    go_end0
    have hO5 : Only (· = mC) w w5 := ((Only.refl _ w).drew.trans (HB4.out.nobody _)).trans (Only.of_grown HG5.out (fun k hk => by injection hk with hk; exact hk.symm))
    have hC := H.out.hC
    refine ⟨rfl, cut_turn H.out hO5 HO5.out (by omega) HA.out HB.out (Maps.atKey_put_same (k := klp (linkS a b).1 (linkS a b).2) H.out.mc.isMap trivial _ _) (fun l hl => Maps.atKey_put_other hl _ _), hO5.mono (fun x hx => by subst hx; exact H.out.fC)⟩

set_option maxRecDepth 100000 in
set_option maxHeartbeats 1000000 in
theorem join_at (N : Nat) (a b : ByteArray) (F : Nat → Prop) (S : NetS) (w : World) (h : NetAt w F N S) (ha : a.size ≤ maxLen) (hb : b.size ≤ maxLen) :
    Calls Tryd.prog 44 #[.pointer (some ⟨N, 0, none⟩), .string a, .string b] w fun e w' => e = .returned (.tuple #[]) ∧ NetAt w' F N (S.link_ a b false 0) ∧ Only F w w' := by
  obtain ⟨sv, mT, mC, nT, nC, DT, DC, box, fq, h⟩ := h
  have k6 : w.cell? ⟨N, 6, none⟩ = some (.map (some mC)) := h.blk.cell 6
  have H := Lib.hid h
  have HA := Lib.hid ha
  have HB := Lib.hid hb
  have HZ := Lib.hid (linkS_small ha hb)
  clear h ha hb
  go_enter Tryd.func44, Tryd.ntmps44
  go_wp2_with fail
  go_region_with (go_at_call 57; refine (link_any a b _).mono ?_; rintro e w4 ⟨rfl, hb4⟩; have HB4 := Lib.hid (Only.of_below hb4 Nobody); clear hb4; have k64 : w4.cell? ⟨N, 6, none⟩ = some (.map (some mC)) := (HB4.out.blk (H.out.blk.drew) (fun x => x)).cell 6; obtain ⟨w5, hrun, hown5, hturn5⟩ := (HB4.out.map_ (World.ownsMap.drew H.out.mc) (fun x => x)).drop keyP Tryd.underlying106 (key_klp HZ.out.1 HZ.out.2) 0; have HO5 := Lib.hid hown5; have HG5 := Lib.hid hturn5.grown; clear hown5 hturn5)
  all_goals
    go_wp2
    go_end0
    have hO5 : Only (· = mC) w w5 := ((Only.refl _ w).drew.trans (HB4.out.nobody _)).trans (Only.of_grown HG5.out (fun k hk => by injection hk with hk; exact hk.symm))
    have hC := H.out.hC
    refine ⟨rfl, cut_turn H.out hO5 HO5.out (by omega) HA.out HB.out (Maps.atKey_del_same _) (fun l hl => Maps.atKey_del_other hl _), hO5.mono (fun x hx => by subst hx; exact H.out.fC)⟩

end Go.Proofs.YthmndclmecnpmaaDoor.Nw
