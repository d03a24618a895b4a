/- The walk of Send. -/
import Derived.Test.YthmndclmecnpmaaDoorWNetX
namespace Go.Proofs.YthmndclmecnpmaaDoor.Nw
open Go.RowKit Go.Maps

set_option maxRecDepth 100000 in
theorem put_self (S : NetS) (b : ByteArray) : S.put b (S.qs b) = S := by
  unfold NetS.put
  congr 1
  funext s
  split
  · rename_i h; rw [h]
  · rfl
set_option maxRecDepth 100000 in
theorem put_put (S : NetS) (b : ByteArray) (q r : List Cp) : (S.put b q).put b r = S.put b r := by
  unfold NetS.put
  congr 1
  funext s
  by_cases h : s = b
  · rw [if_pos h, if_pos h]
  · rw [if_neg h, if_neg h]
    exact if_neg h
set_option maxRecDepth 100000 in
theorem put_at (S : NetS) (b : ByteArray) (q : List Cp) : (S.put b q).qs b = q := by simp [NetS.put]
set_option maxRecDepth 100000 in
theorem with_mem (S : NetS) (b : ByteArray) : b ∈ (S.with_ b).keys := by
  rw [with_keys]
  split
  · assumption
  · simp

set_option maxRecDepth 100000 in
theorem place_64 {a : ByteArray} (h : placeB a = true) : a.size ≤ 64 := by
  unfold placeB at h
  simp only [Bool.and_eq_true, decide_eq_true_eq] at h
  exact h.2

set_option maxRecDepth 100000 in
theorem LAt.ge {B : Nat} {w : World} {l : List Int} {v : Value} (h : LAt B w l v) : ∀ g, v.ownBlock = some g → B ≤ g ∧ g < w.heap.size := by
  intro g e
  rcases h with ⟨_, h2⟩ | ⟨g', h2, hb, hg⟩
  · rw [h2] at e; cases e
  · rw [h2] at e
    simp only [Value.ownBlock, Option.some.injEq] at e
    subst e
    exact ⟨hg, hb.lt⟩

set_option maxRecDepth 100000 in
theorem used_end {w w6 : World} {F : Nat → Prop} {N : Nat} {S : NetS} {sv : Value} {mT mC nT nC : Nat} {DT DC : DataW Unit} {box : ByteArray → Nat} {fq : ByteArray → Nat → Prop} {l : List Int} {v : Value}
    (h : NetParts w6 F N S sv mT mC nT nC DT DC box fq) (hF : ∀ b, F b → b < w.heap.size) (hl : LAt w.heap.size w6 l v) (ho : Only Nobody w w6) :
    NetParts (w6.setCell ⟨N, 4, none⟩ (.int .i64 (min ((S.use : Int) + 1) S.script.length))).drew F N S.used sv mT mC nT nC DT DC box fq ∧ LAt w.heap.size (w6.setCell ⟨N, 4, none⟩ (.int .i64 (min ((S.use : Int) + 1) S.script.length))).drew l v ∧
      Only F w (w6.setCell ⟨N, 4, none⟩ (.int .i64 (min ((S.use : Int) + 1) S.script.length))).drew := by
  have o1 : Only (· = N) w6 (w6.setCell ⟨N, 4, none⟩ (.int .i64 (min ((S.use : Int) + 1) S.script.length))).drew := ((Only.refl (· = N) w6).setCell (p := ⟨N, 4, none⟩) (.inl rfl) _).drew
  have e : min ((S.use : Int) + 1) (S.script.length : Int) = ((min (S.use + 1) S.script.length : Nat) : Int) := by omega
  refine ⟨h.turn o1 rfl rfl rfl rfl rfl (Nat.min_le_right _ _) ?_, hl.keep o1 ?_, (ho.mono (fun _ x => x.elim)).trans (o1.mono (fun b hb => by subst hb; exact h.fN))⟩
  · rw [e]
    exact (h.blk.set_ 4 _).drew
  · rintro g hg rfl
    have := (hl.ge g hg).1
    have := hF g h.fN
    omega

set_option maxRecDepth 100000 in
theorem newbox (w : World) : QAt ((w.alloc (.cells #[] 124)).alloc (.cells #[.slice (some ⟨w.heap.size, 0, none⟩) 0 0] 121)) (fun x => x = w.heap.size ∨ x = w.heap.size + 1) (w.heap.size + 1) [] := by
  have h1 := World.ownsRow_made (base := 0) (e := 124) (size := 5) w #[] 0 (Nat.zero_le _) (Nat.zero_le _) rfl
  have h2 := h1.alloc (.cells #[.slice (some ⟨w.heap.size, 0, none⟩) 0 0] 121)
  have h3 := Blk.new (w.alloc (.cells #[] 124)) 121 #[.slice (some ⟨w.heap.size, 0, none⟩) 0 0]
  rw [World.size_alloc] at h3
  refine ⟨_, h3, h2, .inr rfl, ?_⟩
  intro g e
  simp only [Value.ownBlock, Option.some.injEq] at e
  exact .inl e.symm

/-- The blocks of a network that has got a queue: not the block of the delays. -/
def Grow (F : Nat → Prop) (w : World) (v : Value) : Nat → Prop := fun x => F x ∨ (w.heap.size ≤ x ∧ v.ownBlock ≠ some x)

set_option maxRecDepth 100000 in
theorem sent_end {w wr wx : World} {F : Nat → Prop} {N : Nat} {S : NetS} {a b c : ByteArray} {v : Value} (hlim : ¬ 4096 < S.pend + (S.copies a b).length)
    (h : NetAt wr (Grow F w v) N ((S.used.with_ b).put b (pushK S.now S.sent a c (S.copies a b) (S.copies a b).length (S.qs b)))) (ho : Only F w wr) (hN : F N) (hx : Only (· = N) wr wx)
    (hb : ∀ (sv : Value) (mT mC : Nat), Blk wr N 108 #[sv, .int .i64 S.now, .int .i64 S.sent, .int .i64 S.lost, .int .i64 S.used.use, .map (some mT), .map (some mC)] → Blk wx N 108 #[sv, .int .i64 S.now, .int .i64 ((S.sent + 1 : Nat) : Int), .int .i64 ((S.lost + (if S.copies a b = [] then 1 else 0) : Nat) : Int), .int .i64 S.used.use, .map (some mT), .map (some mC)]) :
    SendPost F N S a b c w (.returned (.int .i64 0)) wx := by
  obtain ⟨sv, mT, mC, nT, nC, DT, DC, box, fq, h⟩ := h
  have e1 : netSend S a b c = (0, netOk S a b c) := by unfold netSend; rw [if_neg hlim]
  unfold SendPost
  rw [e1]
  have hoo : Only F w wx := ho.trans (hx.mono (fun x hx => by subst hx; exact hN))
  refine ⟨rfl, ?_, hoo⟩
  have h2 : NetParts wx (Grow F w v) N (netOk S a b c) sv mT mC nT nC DT DC box fq := h.turn hx rfl rfl rfl rfl rfl h.useLe (hb _ _ _ h.blk)
  have h3 := (NetAt.bound ⟨_, _, _, _, _, _, _, _, _, h2⟩)
  refine h3.mono ?_
  rintro x ⟨hx1 | hx1, hx2⟩
  · exact .inl hx1
  · exact .inr ⟨hx1.1, hx2⟩

set_option maxRecDepth 100000 in
set_option maxHeartbeats 4000000 in
theorem send_any (N : Nat) (a b c : ByteArray) (F : Nat → Prop) (S : NetS) (w : World) (h : NetAt w F N S) (hF : ∀ b, F b → b < w.heap.size) (hp : (placeB a && placeB b) = true) (hc : c.size ≤ 1048576) (hu2 : S.script.length ≤ 1000000000000000) (hpd : S.pend ≤ 5000) (hn : S.now ≤ 1000000000) (hse : S.sent ≤ 1000000000) (hlo : S.lost ≤ 1000000000) (hky : S.keys.length ≤ 1000000000) :
    Calls Tryd.prog 54 #[.pointer (some ⟨N, 0, none⟩), .string a, .string b, .string c] w (SendPost F N S a b c w) := by
  obtain ⟨ha, hb⟩ : placeB a = true ∧ placeB b = true := by simpa using hp
  have HA := Lib.hid ha
  have HB := Lib.hid hb
  have HN := Lib.hid h
  have ha2 := Lib.hid (place_small ha)
  have HF := Lib.hid hF
  have hb2 := Lib.hid (place_small hb)
  clear hp ha hb hF
  obtain ⟨sv, mT, mC, nT, nC, DT, DC, box, fq, h⟩ := h
  have hsc : ∃ A cs, sv = .slice A S.script.length cs := by
    rcases h.scr.2 with ⟨hv, h0⟩ | ⟨g, cap, cur, hv, _⟩
    · exact ⟨none, 0, by rw [h0]; exact hv⟩
    · exact ⟨_, _, hv⟩
  obtain ⟨A, cs, hsv⟩ := hsc
  have c0 : w.cell? ⟨N, 0, none⟩ = some (.slice A S.script.length cs) := by rw [← hsv]; exact h.blk.cell 0
  have c4 : w.cell? ⟨N, 4, none⟩ = some (.int .i64 S.use) := h.blk.cell 4
  have c6 : w.cell? ⟨N, 6, none⟩ = some (.map (some mC)) := h.blk.cell 6
  have HSV := Lib.hid hsv
  have H := Lib.hid h
  clear h hsv
  go_enter Tryd.func54, Tryd.ntmps54
  go_wp2_with fail
  refine (place_any a w).mono ?_
  rw [HA.out]
  rintro e w' ⟨rfl, rfl⟩
  go_wp2_with fail
  refine (place_any b w).mono ?_
  rw [HB.out]
  rintro e w' ⟨rfl, rfl⟩
  go_upto_region 8 with fail
  go_cut [38] (fun s wx => s = .bool (decide (S.use < S.script.length)) ∧ Only Nobody w wx)
  case first =>
    go_quiet (fail)
    go_wp2_with fail
    go_meet
    exact ⟨congrArg Value.bool (by simp), (Only.refl _ _).drewN _⟩
  case rest =>
    obtain ⟨rfl, ho1⟩ := hcut
    have HO1 := Lib.hid ho1
    clear ho1 c0 c4
    go_upto_if 38 with fail
    go_cut [9] (fun s9 wx => s9 = .int .u8 S.byte.toNat ∧ Only Nobody w wx)
    case first =>
      by_cases hul : S.use < S.script.length
      · have hdt : decide (S.use < S.script.length) = true := decide_eq_true hul
        obtain ⟨g, cs', hv, _, hgl⟩ := H.out.scr.form (show 0 < S.script.length by omega)
        have hv2 := HSV.out.symm.trans hv
        simp only [Value.slice.injEq, true_and] at hv2
        obtain ⟨rfl, rfl⟩ := hv2
        have c0 : wc.cell? ⟨N, 0, none⟩ = some (.slice (some ⟨g, 0, none⟩) S.script.length cs) := by
          have := (HO1.out.blk H.out.blk (fun x => x)).cell 0
          rw [this, HSV.out]; rfl
        have c4 : wc.cell? ⟨N, 4, none⟩ = some (.int .i64 S.use) := (HO1.out.blk H.out.blk (fun x => x)).cell 4
        have hb9 : S.script[S.use]? = some S.byte := by
          unfold NetS.byte
          rw [List.getD_eq_getElem?_getD, List.getElem?_eq_getElem hul]; rfl
        have cb : wc.cell? ⟨g, S.use, none⟩ = some (.int .u8 S.byte.toNat) := by
          have h1 := (HO1.out.row H.out.scr (fun _ _ x => x)).cells (g := g) (by rw [HSV.out]; rfl) S.use (.int .u8 S.byte.toNat) (by simp [byteVals, hb9])
          rw [← h1, addr0]
        clear hb9 hv
        go_wp2_with fail
        go_quiet (fail)
        go_wp2_with fail
        go_meet
        exact ⟨rfl, HO1.out.drewN _⟩
      · have hdt : decide (S.use < S.script.length) = false := decide_eq_false hul
        go_wp2_with fail
        go_meet
        have : S.byte = 0 := by
          unfold NetS.byte
          rw [List.getD_eq_getElem?_getD, List.getElem?_eq_none (by omega)]; rfl
        rw [this]
        exact ⟨rfl, HO1.out⟩
    case rest =>
      obtain ⟨rfl, ho2⟩ := hcut
      have HO2 := Lib.hid ho2
      clear ho2
      go_wp2_with fail
      refine (delays_at S.byte wc).mono ?_
      rintro e w3 ⟨v, rfl, hl3, ho3⟩
      have HL3 := Lib.hid (hl3.base (B' := w.heap.size) HO2.out.size)
      have HO3 := Lib.hid (HO2.out.trans ho3)
      clear hl3 ho3
      have HNB : Hid (∀ g, v.ownBlock = some g → ¬ Nobody g) := fun g _ x => x
      go_upto_region 11 with fail
      go_cut [58] (fun s wx => s = .bool (S.cut (linkS a b).1 (linkS a b).2) ∧ LAt w.heap.size wx (delaysL S.byte) v ∧ Only Nobody w wx)
      case first =>
        have c6 : w3.cell? ⟨N, 6, none⟩ = some (.map (some mC)) := (HO3.out.blk H.out.blk (fun x => x)).cell 6
        have H3 : Hid (w3.drew.ownsMap Tryd.prog 114 (plainElem Tryd.prog 4) mC nC DC) := (HO3.out.drew).map_ H.out.mc (fun x => x)
        have HZ := Lib.hid (linkS_small ha2.out hb2.out)
        go_region_with (go_at_call 57; refine (link_any a b _).mono ?_; rintro e w4 ⟨rfl, hb4⟩; have HB4 := Lib.hid (Only.of_below hb4 Nobody); clear hb4; have c64 : w4.cell? ⟨N, 6, none⟩ = some (.map (some mC)) := (HB4.out.blk (HO3.out.drew.blk H.out.blk (fun x => x)) (fun x => x)).cell 6; have hrun := look_cut (S := S) (HB4.out.map_ H3.out (fun x => x)) H.out.cuts HZ.out.1 HZ.out.2)
        all_goals
          go_wp2_with fail
          go_meet
          exact ⟨rfl, (HL3.out.keep ((Only.refl Nobody w3).drew.trans HB4.out) HNB.out), (HO3.out.drew).trans HB4.out⟩
      case rest =>
        obtain ⟨rfl, hl4, ho4⟩ := hcut
        have HL4 := Lib.hid hl4
        have HO4 := Lib.hid ho4
        clear hl4 ho4
        go_upto_if 58 with fail
        go_cut [10] (fun s wx => LAt w.heap.size wx (S.copies a b) s ∧ Only Nobody w wx)
        case first =>
          by_cases hcu : S.cut (linkS a b).1 (linkS a b).2 = true
          · rw [hcu]
            have HCU := Lib.hid hcu
            clear hcu
            go_wp2_with fail
            go_meet
            exact ⟨.inl ⟨by simp [NetS.copies, HCU.out], rfl⟩, HO4.out⟩
          · have hcf : S.cut (linkS a b).1 (linkS a b).2 = false := by simpa using hcu
            have hco : S.copies a b = delaysL S.byte := by simp [NetS.copies, hcf]
            have HCO := Lib.hid hco
            rw [hcf]
            clear hcu hco hcf
            go_wp2_with fail
            go_meet
            rw [HCO.out]
            exact ⟨HL4.out, HO4.out⟩
        case rest =>
          obtain ⟨hl5, ho5⟩ := hcut
          have HL5 := Lib.hid hl5
          have HO5 := Lib.hid ho5
          have HS5 := Lib.hid (ho5.size)
          have hcl := copies_le S a b
          have hlv := hl5.form
          obtain ⟨A', rfl⟩ := hlv
          clear hl5 ho5
          go_wp2_with fail
          refine (pending_at N F S _ (HN.out.keep HO5.out (fun _ _ x => x)) (by omega)).mono ?_
          rintro e w6 ⟨rfl, hN6, ho6⟩
          have HN6 := Lib.hid hN6
          have HO6 := Lib.hid (HO5.out.trans ho6)
          have HL6 := Lib.hid (HL5.out.keep ho6 (fun _ _ x => x))
          clear hN6 ho6
          by_cases hlim : 4096 < S.pend + (S.copies a b).length
          · go_wp2_with fail
            go_ret
            refine ⟨?_, ?_, HO6.out.mono (fun _ x => x.elim)⟩
            · simp [netSend, hlim]
            · rw [show (netSend S a b c).2 = S by simp [netSend, hlim]]
              exact HN6.out.mono (fun b x => .inl x)
          · go_wp2_with fail
            obtain ⟨sv6, mT6, mC6, nT6, nC6, DT6, DC6, box6, fq6, h6⟩ := HN6.out
            have hsc6 : ∃ A cs, sv6 = .slice A S.script.length cs := by
              rcases h6.scr.2 with ⟨hv, h0⟩ | ⟨g, cap, cur, hv, _⟩
              · exact ⟨none, 0, by rw [h0]; exact hv⟩
              · exact ⟨_, _, hv⟩
            obtain ⟨A6, cs6, rfl⟩ := hsc6
            have k0 : w6.cell? ⟨N, 0, none⟩ = some (.slice A6 S.script.length cs6) := h6.blk.cell 0
            have k4 : w6.cell? ⟨N, 4, none⟩ = some (.int .i64 S.use) := h6.blk.cell 4
            have f4 : w6.frozen? ⟨N, 4, none⟩ = false := h6.blk.frozen 4
            have hul := h6.useLe
            have H6 := Lib.hid h6
            clear h6
            go_cut [] (fun wx => NetParts wx F N S.used (.slice A6 S.script.length cs6) mT6 mC6 nT6 nC6 DT6 DC6 box6 fq6 ∧ LAt w.heap.size wx (S.copies a b) (.slice A' (S.copies a b).length (S.copies a b).length) ∧ Only F w wx)
            case first =>
              go_region
              all_goals
                go_wp2_with fail
                go_meet
                exact used_end H6.out HF.out HL6.out HO6.out
            case rest =>
              obtain ⟨h7, hl7, ho7⟩ := hcut
              have k5 : wc.cell? ⟨N, 5, none⟩ = some (.map (some mT6)) := h7.blk.cell 5
              have hlk := look_to h7 b hb2.out
              have H7 := Lib.hid h7
              have HL7 := Lib.hid hl7
              have HO7 := Lib.hid ho7
              clear h7 hl7 ho7 k0 k4 f4 hul
              go_upto_region 16 with fail
              go_cut [85] (fun s wx => s = .bool (decide (b ∉ S.keys)) ∧ wx = wc)
              case first =>
                by_cases hbk : b ∈ S.keys
                · have hd : (decide (b ∉ S.keys)) = false := decide_eq_false (fun x => x hbk)
                  rw [if_pos (show b ∈ S.used.keys from hbk)] at hlk
                  unfold ptrOf at hlk
                  have HD := Lib.hid hd
                  clear hbk hd
                  have he := ptr_ne
                  go_wp2_with fail
                  go_meet
                  rw [HD.out]
                  exact ⟨rfl, rfl⟩
                · have hd : (decide (b ∉ S.keys)) = true := decide_eq_true hbk
                  rw [if_neg (show ¬ b ∈ S.used.keys from hbk)] at hlk
                  unfold ptrOf at hlk
                  have HD := Lib.hid hd
                  clear hbk hd
                  go_wp2_with fail
                  go_meet
                  rw [HD.out]
                  exact ⟨rfl, rfl⟩
              case rest =>
              obtain ⟨rfl, rfl⟩ := hcut
              go_upto_if 85 with fail
              go_cut [] (fun wx => NetAt wx (Grow F w (.slice A' (S.copies a b).length (S.copies a b).length)) N (S.used.with_ b) ∧ LAt w.heap.size wx (S.copies a b) (.slice A' (S.copies a b).length (S.copies a b).length) ∧ Only F w wx)
              case first =>
                by_cases hbk : b ∈ S.keys
                · rw [show (decide (b ∉ S.keys)) = false from decide_eq_false (fun x => x hbk)]
                  have HBK := Lib.hid hbk
                  clear hbk hlk
                  go_wp2_with fail
                  go_meet
                  refine ⟨?_, HL7.out, HO7.out⟩
                  rw [show S.used.with_ b = S.used by unfold NetS.with_; rw [if_pos (show b ∈ S.used.keys from HBK.out)]]
                  exact NetAt.mono ⟨_, _, _, _, _, _, _, _, _, H7.out⟩ (fun _ x => .inl x)
                · rw [show (decide (b ∉ S.keys)) = true from decide_eq_true hbk]
                  have HBK := Lib.hid hbk
                  clear hbk hlk
                  have hnT : nT6 < maxLen := by
                    have h1 := H7.out.hT
                    have h2 : S.used.keys = S.keys := rfl
                    rw [h2] at h1
                    unfold maxLen
                    omega
                  have HNT := Lib.hid hnT
                  clear hnT
                  go_wp2_with (at_mapUpdate; refine wpList_mapUpdate_own _ rfl _ _ _ 105 rfl 9 119 keyS Tryd.underlying105 ptrElem mT6 nT6 DT6 rfl ((H7.out.mt.alloc _).alloc _) HNT.out _ _ (kl b) rfl rfl (key_kl hb2.out) _ [] (ptrElem_some _) ?_; intro w1 hown1 hgrow1)
                  go_meet
                  have hoo : Only Nobody wc ((wc.alloc (.cells #[] 124)).alloc (.cells #[.slice (some ⟨wc.heap.size, 0, none⟩) 0 0] 121)) := ((Only.refl _ wc).alloc _).alloc _
                  have hob : Only (· = mT6) wc w1 := (hoo.mono (fun _ x => x.elim)).trans (Only.of_grown hgrow1 (fun k hk => by injection hk with hk; exact hk.symm))
                  refine ⟨?_, ?_, HO7.out.trans (hob.mono (fun x hx => by subst hx; exact H7.out.fT))⟩
                  · refine (H7.out.newkey HBK.out (place_64 HB.out) hoo (newbox wc) ?_ hown1 hgrow1).mono ?_
                    · rintro x (rfl | rfl) <;> omega
                    · rintro x (hx | hx)
                      · exact .inl hx
                      · have hs := HO7.out.size
                        refine .inr ⟨by rcases hx with rfl | rfl <;> omega, fun e => ?_⟩
                        have := (HL7.out.ge x e).2
                        rcases hx with rfl | rfl <;> omega
                  · refine HL7.out.keep hob ?_
                    rintro g hg rfl
                    have h1 := (HL7.out.ge g hg).1
                    have h2 := HF.out g H7.out.fT
                    omega
              case rest =>
                obtain ⟨h8, hl8, ho8⟩ := hcut
                have H8 := Lib.hid h8
                have HL8 := Lib.hid hl8
                have HO8 := Lib.hid ho8
                clear h8 hl8 ho8 hlk k5
                go_wp2_with fail
                rcases HL8.out with ⟨hl0, hv0⟩ | ⟨g, hv0, hbg, hgg⟩
                · simp only [Value.slice.injEq] at hv0
                  obtain ⟨rfl, _⟩ := hv0
                  obtain ⟨sv9, mT9, mC9, nT9, nC9, DT9, DC9, box9, fq9, h9⟩ := H8.out
                  have k2 : wc.cell? ⟨N, 2, none⟩ = some (.int .i64 S.sent) := h9.blk.cell 2
                  have f2 : wc.frozen? ⟨N, 2, none⟩ = false := h9.blk.frozen 2
                  have k3 : wc.cell? ⟨N, 3, none⟩ = some (.int .i64 S.lost) := h9.blk.cell 3
                  have f3 : wc.frozen? ⟨N, 3, none⟩ = false := h9.blk.frozen 3
                  clear h9
                  have hzl : (S.copies a b).length ≤ 0 := by rw [hl0]; exact Nat.le_refl _
                  have hzb : (((S.copies a b).length : Int) == 0) = true := by rw [hl0]; rfl
                  have HZ := Lib.hid hl0
                  clear hl0
                  refine wp_loop_rounds 1 ?_
                  rw [rounds_succ]
                  go_wp2_with fail
                  go_ret
                  have e : (S.used.with_ b).put b (pushK S.now S.sent a c (S.copies a b) (S.copies a b).length (S.qs b)) = S.used.with_ b := by
                    rw [HZ.out]
                    exact put_self (S.used.with_ b) b
                  have hN8 := H8.out
                  rw [← e] at hN8
                  have hfin := sent_end (wx := (wc.setCell ⟨N, 2, none⟩ (.int .i64 ((S.sent : Int) + 1))).setCell ⟨N, 3, none⟩ (.int .i64 ((S.lost : Int) + 1))) hlim hN8 HO8.out (H.out.fN) (((Only.refl (· = N) wc).setCell (p := ⟨N, 2, none⟩) (.inl rfl) _).setCell (p := ⟨N, 3, none⟩) (.inl rfl) _) (fun sv mT mC hb => by
                    rw [if_pos HZ.out]
                    exact (hb.set_ 2 _).set_ 3 _)
                  exact hfin
                · simp only [Value.slice.injEq, and_self, and_true] at hv0
                  subst hv0
                  have hlg := hbg.lt
                  have HBG := Lib.hid hbg
                  clear hbg
                  go_loopw [95] (fun s wr => ∃ i : Nat, s = .int .i64 (i : Int) ∧ i ≤ (S.copies a b).length ∧ NetAt wr (Grow F w (.slice (some ⟨g, 0, none⟩) (S.copies a b).length (S.copies a b).length)) N ((S.used.with_ b).put b (pushK S.now S.sent a c (S.copies a b) i (S.qs b))) ∧ Blk wr g 3 ((S.copies a b).map (Value.int .i64)).toArray ∧ Only F w wr) (fun s _ => (S.copies a b).length - (intOf s).toNat)
                  case atStart =>
                    refine ⟨0, rfl, Nat.zero_le _, ?_, HBG.out, HO8.out⟩
                    have e : (S.used.with_ b).put b (pushK S.now S.sent a c (S.copies a b) 0 (S.qs b)) = S.used.with_ b := put_self (S.used.with_ b) b
                    rw [e]
                    exact H8.out
                  case round =>
                    obtain ⟨i, rfl, hi, hN, hB, hO⟩ := hrel
                    have HN9 := Lib.hid hN
                    have HB9 := Lib.hid hB
                    have HO9 := Lib.hid hO
                    clear hN hB hO
                    by_cases hlt : i < (S.copies a b).length
                    · have cd : wr.cell? ⟨g, i, none⟩ = some (.int .i64 ((S.copies a b).getD i 0)) := by
                        rw [HB9.out.cell i]
                        simp [List.getElem?_eq_getElem hlt]
                      obtain ⟨sv9, mT9, mC9, nT9, nC9, DT9, DC9, box9, fq9, h9⟩ := HN9.out
                      have hmem : b ∈ (S.used.with_ b).keys := with_mem S.used b
                      have k5 : wr.drew.cell? ⟨N, 5, none⟩ = some (.map (some mT9)) := h9.blk.cell 5
                      have k1 : wr.drew.cell? ⟨N, 1, none⟩ = some (.int .i64 S.now) := h9.blk.cell 1
                      have k2 : wr.drew.cell? ⟨N, 2, none⟩ = some (.int .i64 S.sent) := h9.blk.cell 2
                      have hlk9 : (Instr.lookup 105 (.map (some mT9)) (.string b) false).run Tryd.prog wr.drew = .ok (.pointer (some ⟨box9 b, 0, none⟩)) wr.drew := by
                        have := look_to (w := wr.drew) { h9 with } b hb2.out
                        rw [if_pos (show b ∈ ((S.used.with_ b).put b (pushK S.now S.sent a c (S.copies a b) i (S.qs b))).keys from hmem)] at this
                        exact this
                      have hq9 : QAt wr.drew (fq9 b) (box9 b) (pushK S.now S.sent a c (S.copies a b) i (S.qs b)) := by
                        have := h9.box b hmem
                        rw [put_at] at this
                        exact this
                      have hdb := copies_bd S a b _ (List.getElem_mem hlt)
                      have hdb2 : 1 ≤ (S.copies a b).getD i 0 ∧ (S.copies a b).getD i 0 ≤ 8 := by
                        rw [List.getD_eq_getElem?_getD, List.getElem?_eq_getElem hlt]; exact hdb
                      have hnd : IntKind.i64.wrap ((S.now : Int) + (S.copies a b).getD i 0) = (S.now : Int) + (S.copies a b).getD i 0 := IntWalk.i64_in _ (by omega)
                      clear hdb
                      generalize hd : (S.copies a b).getD i 0 = d at *
                      have HD := Lib.hid hd
                      have H9 := Lib.hid h9
                      have HQ9 := Lib.hid hq9
                      have HMEM := Lib.hid hmem
                      clear h9 hq9 hmem hd
                      go_wp2_with fail
                      (refine wp_region_still_tail 23 (by kernel_rfl) (by kernel_rfl) ?_
                       simp only [List.take_succ_cons, List.take_zero, List.drop_succ_cons, List.drop_zero])
                      change wpStill _ _ (World.drew _) _ _ _
                      repeat still_step
                      refine wpStill_nil ?_
                      change wpList _ _ _ _ _ (World.drew _)
                      go_wp2_with fail
                      have hlen9 : (pushK S.now S.sent a c (S.copies a b) i (S.qs b)).length ≤ 100000 := by
                        rw [pushK_len]
                        have := H.out.qs_le b
                        omega
                      refine (hpush (box9 b) _ ⟨(S.now : Int) + d, S.sent, i, a, c⟩ (fq9 b) wr.drew HQ9.out hlen9).mono ?_
                      rintro e w10 ⟨rfl, hq10, ho10⟩
                      have HQ10 := Lib.hid hq10
                      have HO10 := Lib.hid ho10
                      clear hq10 ho10 hlen9
                      go_wp2_with fail
                      go_roundw
                      case rel =>
                        have HGR : ∀ x, fq9 b x → Grow F w (.slice (some ⟨g, 0, none⟩) (S.copies a b).length (S.copies a b).length) x := fun x hx => (H9.out.fq_in b x hx).1
                        have hBg := HB9.out.lt
                        have hs9 := HO9.out.size
                        refine ⟨i + 1, by go_num, by omega, ?_, HO10.out.blk HB9.out (fun hx => ?_), HO9.out.trans_more ((Only.refl _ wr).drew.trans (HO10.out.mono (fun x hx => ?_)))⟩
                        · have h10 := NetParts.pushed (w := wr.drew) { H9.out with } HMEM.out HQ10.out HO10.out
                          rw [put_put] at h10
                          have e2 : pushK S.now S.sent a c (S.copies a b) (i + 1) (S.qs b) = pushL (pushK S.now S.sent a c (S.copies a b) i (S.qs b)) ⟨(S.now : Int) + d, S.sent, i, a, c⟩ := by
                            rw [pushK, HD.out]
                          rw [e2]
                          refine h10.mono ?_
                          rintro x (hx | hx)
                          · exact hx
                          · have hx' : wr.heap.size ≤ x := hx
                            refine .inr ⟨by omega, ?_⟩
                            intro e
                            simp only [Value.ownBlock, Option.some.injEq] at e
                            omega
                        · rcases HGR g hx with hx | ⟨_, hx⟩
                          · have := HF.out g hx
                            omega
                          · exact hx rfl
                        · rcases HGR x hx with hx | ⟨hx, _⟩
                          · exact .inl hx
                          · exact .inr hx
                      case measure => simp [intOf]; omega
                    · have hil : i = (S.copies a b).length := by omega
                      have HIL := Lib.hid hil
                      have hge : (S.copies a b).length ≤ i := by omega
                      clear hil
                      obtain ⟨sv9, mT9, mC9, nT9, nC9, DT9, DC9, box9, fq9, h9⟩ := HN9.out
                      have k2 : wr.cell? ⟨N, 2, none⟩ = some (.int .i64 S.sent) := h9.blk.cell 2
                      have f2 : wr.frozen? ⟨N, 2, none⟩ = false := h9.blk.frozen 2
                      have k3 : wr.cell? ⟨N, 3, none⟩ = some (.int .i64 S.lost) := h9.blk.cell 3
                      have f3 : wr.frozen? ⟨N, 3, none⟩ = false := h9.blk.frozen 3
                      clear h9
                      by_cases hz : (S.copies a b).length = 0
                      · have hzb : (((S.copies a b).length : Int) == 0) = true := by simpa using hz
                        have HZ := Lib.hid (List.length_eq_zero_iff.1 hz)
                        clear hz
                        go_wp2_with fail
                        go_ret
                        have hN9 := HN9.out
                        rw [HIL.out] at hN9
                        have hfin := sent_end (wx := (wr.setCell ⟨N, 2, none⟩ (.int .i64 ((S.sent : Int) + 1))).setCell ⟨N, 3, none⟩ (.int .i64 ((S.lost : Int) + 1))) hlim hN9 HO9.out (H.out.fN) (((Only.refl (· = N) wr).setCell (p := ⟨N, 2, none⟩) (.inl rfl) _).setCell (p := ⟨N, 3, none⟩) (.inl rfl) _) (fun sv mT mC hb => by
                          rw [if_pos HZ.out]
                          exact (hb.set_ 2 _).set_ 3 _)
                        exact hfin
                      · have hzb : (((S.copies a b).length : Int) == 0) = false := by rw [beq_eq_false_iff_ne]; omega
                        have HZ := Lib.hid (show ¬ S.copies a b = [] from fun e => hz (by rw [e]; rfl))
                        clear hz
                        go_wp2_with fail
                        go_ret
                        have hN9 := HN9.out
                        rw [HIL.out] at hN9
                        have hfin := sent_end (wx := wr.setCell ⟨N, 2, none⟩ (.int .i64 ((S.sent : Int) + 1))) hlim hN9 HO9.out (H.out.fN) ((Only.refl (· = N) wr).setCell (p := ⟨N, 2, none⟩) (.inl rfl) _) (fun sv mT mC hb => by
                          rw [if_neg HZ.out]
                          exact hb.set_ 2 _)
                        exact hfin

end Go.Proofs.YthmndclmecnpmaaDoor.Nw
