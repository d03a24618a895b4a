/- Exchange: an inbox or an outbox replaced; the law ExchangeRestarts. -/
import Derived.Test.YthmndclmecnpmaaDoorLnD
namespace Go.Proofs.YthmndclmecnpmaaDoor
open Go.RowKit
open Nw (Net NetS netSendAll netTake netLeft pksOf Grows Small)
attribute [local go_sem ↓] Go.wp_at_zero Go.wp_at_succ

section
variable {w0 w w1 w' : World} {Z F : Nat → Prop} {N X O I : Nat} {S : NetS} {OS : OutS} {IS : InS} {G : List It} {vO vG : Value}
/-- The side has got a new inbox. -/
theorem Ln.newI {I2 : Nat} {IS2 : InS} (h : Ln w0 w Z F N S X O I OS IS G vO vG) (h1 : Only Nobody w w1) (hi : InAt w1 I2 IS2) (hI : w.heap.size ≤ I2) :
    Ln w0 ((w1.setCell ⟨X, 1, none⟩ (.pointer (some ⟨I2, 0, none⟩))).setCell ⟨X, 3, none⟩ (.bool true)) Z F N S X O I2 OS IS2 G vO vG ∧ Only (fun k => ¬ Z k) w ((w1.setCell ⟨X, 1, none⟩ (.pointer (some ⟨I2, 0, none⟩))).setCell ⟨X, 3, none⟩ (.bool true)) := by
  have hX := h.lt X (.inl rfl)
  have hO := h.lt O (.inr (.inl rfl))
  have ho : Only (fun k => k = X) w1 ((w1.setCell ⟨X, 1, none⟩ (.pointer (some ⟨I2, 0, none⟩))).setCell ⟨X, 3, none⟩ (.bool true)) := ((Only.refl (fun k => k = X) w1).setCell (p := ⟨X, 1, none⟩) (.inl rfl) _).setCell (p := ⟨X, 3, none⟩) (.inl rfl) _
  have hoo := (h1.mono (G := fun k => k = X) (fun _ x => x.elim)).trans ho
  have hx1 := h1.blk h.x (fun x => x)
  have hvo := h.bo
  have hown : ∀ k, OwnX X O I2 vO vG k → OwnX X O I vO vG k ∨ w.heap.size ≤ k := by
    rintro k (e | e | e | e | e)
    · exact .inl (.inl e)
    · exact .inl (.inr (.inl e))
    · exact .inl (.inr (.inr (.inl e)))
    · exact .inr (by omega)
    · exact .inl (.inr (.inr (.inr (.inr e))))
  refine ⟨⟨h.n.keep hoo (fun k e => by rw [e]; exact h.lo X (.inl rfl)) (fun b hb e => h.sep b hb (.inl e)), (hx1.set_ 1 _).set_ 3 _, h.o.keep hoo ?_, ho.blk hi (by omega), hoo.row h.g (fun k e e2 => (h.bg k e).1 e2), h.xo, by omega, by omega, ?_, ?_, ?_, ?_, ?_⟩, hoo.mono (fun k e hz => (h.z k hz).2.2 (.inl e))⟩
  · rintro k (e | e) e2
    · exact h.xo (e2.symm.trans e)
    · exact (h.bo k e).1 e2
  · intro k e
    have := h.lt k (.inr (.inr (.inl e)))
    exact ⟨(h.bo k e).1, (h.bo k e).2.1, by omega⟩
  · intro k e
    have := h.lt k (.inr (.inr (.inr (.inr e))))
    exact ⟨(h.bg k e).1, (h.bg k e).2.1, by omega, (h.bg k e).2.2.2⟩
  · intro k hk
    rcases hown k hk with e | e
    · exact h.lo k e
    · exact Nat.le_trans h.n.bel.size e
  · intro k hk hm
    rcases hown k hm with e | e
    · exact h.sep k hk e
    · have := h.n.bd k hk; omega
  · intro k hk
    obtain ⟨z1, z2, z3⟩ := h.z k hk
    refine ⟨Nat.lt_of_lt_of_le z1 hoo.size, z2, fun hm => ?_⟩
    rcases hown k hm with e | e
    · exact z3 e
    · omega
/-- The side has got a new outbox. -/
theorem Ln.newO {O2 : Nat} {OS2 : OutS} {v2 : Value} (h : Ln w0 w Z F N S X O I OS IS G vO vG) (h1 : Only Nobody w w1) (hi : OutAt w1 O2 OS2 v2) (hO2 : w.heap.size ≤ O2) (hv : ∀ k, v2.ownBlock = some k → w.heap.size ≤ k ∧ k ≠ O2) :
    Ln w0 ((w1.setCell ⟨X, 0, none⟩ (.pointer (some ⟨O2, 0, none⟩))).setCell ⟨X, 3, none⟩ (.bool true)) Z F N S X O2 I OS2 IS G v2 vG ∧ Only (fun k => ¬ Z k) w ((w1.setCell ⟨X, 0, none⟩ (.pointer (some ⟨O2, 0, none⟩))).setCell ⟨X, 3, none⟩ (.bool true)) := by
  have hX := h.lt X (.inl rfl)
  have hI := h.lt I (.inr (.inr (.inr (.inl rfl))))
  have ho : Only (fun k => k = X) w1 ((w1.setCell ⟨X, 0, none⟩ (.pointer (some ⟨O2, 0, none⟩))).setCell ⟨X, 3, none⟩ (.bool true)) := ((Only.refl (fun k => k = X) w1).setCell (p := ⟨X, 0, none⟩) (.inl rfl) _).setCell (p := ⟨X, 3, none⟩) (.inl rfl) _
  have hoo := (h1.mono (G := fun k => k = X) (fun _ x => x.elim)).trans ho
  have hx1 := h1.blk h.x (fun x => x)
  have hown : ∀ k, OwnX X O2 I v2 vG k → OwnX X O I vO vG k ∨ w.heap.size ≤ k := by
    rintro k (e | e | e | e | e)
    · exact .inl (.inl e)
    · exact .inr (by omega)
    · exact .inr (hv k e).1
    · exact .inl (.inr (.inr (.inr (.inl e))))
    · exact .inl (.inr (.inr (.inr (.inr e))))
  refine ⟨⟨h.n.keep hoo (fun k e => by rw [e]; exact h.lo X (.inl rfl)) (fun b hb e => h.sep b hb (.inl e)), (hx1.set_ 0 _).set_ 3 _, hi.keep ho ?_, hoo.blk h.i (fun e => h.xi e.symm), hoo.row h.g (fun k e e2 => (h.bg k e).1 e2), by omega, h.xi, by omega, ?_, ?_, ?_, ?_, ?_⟩, hoo.mono (fun k e hz => (h.z k hz).2.2 (.inl e))⟩
  · rintro k (e | e) e2
    · omega
    · have := (hv k e).1; omega
  · intro k e
    have := hv k e
    exact ⟨by omega, this.2, by omega⟩
  · intro k e
    have h9 := h.lt k (.inr (.inr (.inr (.inr e))))
    exact ⟨(h.bg k e).1, by omega, (h.bg k e).2.2.1, fun e2 => by have := (hv k e2).1; omega⟩
  · intro k hk
    rcases hown k hk with e | e
    · exact h.lo k e
    · exact Nat.le_trans h.n.bel.size e
  · intro k hk hm
    rcases hown k hm with e | e
    · exact h.sep k hk e
    · have := h.n.bd k hk; omega
  · intro k hk
    obtain ⟨z1, z2, z3⟩ := h.z k hk
    refine ⟨Nat.lt_of_lt_of_le z1 hoo.size, z2, fun hm => ?_⟩
    rcases hown k hm with e | e
    · exact z3 e
    · omega
variable {K n : Nat} {s : Ls}
theorem newI_lw {I2 : Nat} (h : Lw w0 w Z N X O I K n s G) (h1 : Only Nobody w w1) (hi : InAt w1 I2 (newIn s.m.taken)) (hI : w.heap.size ≤ I2) :
    Lw w0 ((w1.setCell ⟨X, 1, none⟩ (.pointer (some ⟨I2, 0, none⟩))).setCell ⟨X, 3, none⟩ (.bool true)) Z N X O I2 K n { s with m := ⟨s.m.taken, []⟩ } G := by
  obtain ⟨S, IS, ⟨F, vO, vG, hl⟩, h2, h3, h4, h5⟩ := h
  exact ⟨S, _, ⟨F, vO, vG, (hl.newI h1 hi hI).1⟩, h2, h3, inR_new _, h5.newIn⟩
theorem newO_lw {O2 : Nat} {v2 : Value} (h : Lw w0 w Z N X O I K n s G) (h1 : Only Nobody w w1) (hi : OutAt w1 O2 (freshO s.O) v2) (hO2 : w.heap.size ≤ O2) (hv : ∀ k, v2.ownBlock = some k → w.heap.size ≤ k ∧ k ≠ O2) :
    Lw w0 ((w1.setCell ⟨X, 0, none⟩ (.pointer (some ⟨O2, 0, none⟩))).setCell ⟨X, 3, none⟩ (.bool true)) Z N X O2 I K n { s with O := freshO s.O } G := by
  obtain ⟨S, IS, ⟨F, vO, vG, hl⟩, h2, h3, h4, h5⟩ := h
  exact ⟨S, IS, ⟨F, v2, vG, (hl.newO h1 hi hO2 hv).1⟩, h2, h3, h4, h5.newOut⟩
theorem taken_lw (h : Lw w0 w Z N X O I K n s G) : Calls Tryd.prog 20 #[.pointer (some ⟨I, 0, none⟩)] w fun e w' => e = .returned (.int .i64 s.m.taken) ∧ w = w' := by
  obtain ⟨S, IS, h1, h2, h3, h4, h5⟩ := h
  have := taken_lq h1
  rw [h4.taken] at this
  exact this
theorem Lw.fro (h : Lw w0 w Z N X O I K n s G) (i : Nat) : w.frozen? ⟨X, i, none⟩ = false := by
  obtain ⟨S, IS, ⟨F, vO, vG, hl⟩, _⟩ := h
  exact hl.x.frozen i
theorem pend_row (h : Lw w0 w Z N X O I K n s G) (hl : s.O.l.length ≤ 5000) : Calls Tryd.prog 34 #[.pointer (some ⟨O, 0, none⟩)] w fun e w' => ∃ v, e = .returned v ∧ w'.ownsRow w.heap.size 36 2 v s.O.l.length (itsC (s.O.l.map (·.x))) ∧ Only Nobody w w' := by
  obtain ⟨S, IS, ⟨F, vO, vG, h1⟩, h2⟩ := h
  exact pending_ox O s.O vO w h1.o hl
def fresh (y : Snd) : Snd := ⟨y.x, false, 0⟩
/-- While the new outbox gets the pending items: they lie in the slice lv. -/
structure Rb (w w' : World) (O2 a : Nat) (L : List Snd) (v lv : Value) : Prop where
  o : OutAt w' O2 ⟨a, L⟩ v
  lo : w.heap.size ≤ O2
  bo : ∀ b, v.ownBlock = some b → w.heap.size ≤ b ∧ b ≠ O2 ∧ lv.ownBlock ≠ some b
  ln : ∀ b, lv.ownBlock = some b → b ≠ O2 ∧ b < w'.heap.size
  only : Only Nobody w w'
theorem Rb.same {w2 : World} {O2 a : Nat} {L : List Snd} {v lv : Value} (h : Rb w w' O2 a L v lv) (ho : Only Nobody w' w2) : Rb w w2 O2 a L v lv :=
  ⟨h.o.same ho, h.lo, h.bo, fun b e => ⟨(h.ln b e).1, Nat.lt_of_lt_of_le (h.ln b e).2 ho.size⟩, h.only.trans ho⟩
theorem Rb.put {w2 : World} {O2 a : Nat} {L L2 : List Snd} {v v' lv : Value} (h : Rb w w' O2 a L v lv) (h1 : OutAt w2 O2 ⟨a, L2⟩ v') (ho : Only (OwnO O2 v) w' w2) (hn : v'.ownBlock = v.ownBlock ∨ ∃ g, v'.ownBlock = some g ∧ w'.heap.size ≤ g) : Rb w w2 O2 a L2 v' lv ∧ ∀ b, lv.ownBlock = some b → ¬ OwnO O2 v b := by
  refine ⟨⟨h1, h.lo, ?_, fun b e => ⟨(h.ln b e).1, Nat.lt_of_lt_of_le (h.ln b e).2 ho.size⟩, h.only.trans_more (ho.mono ?_)⟩, ?_⟩
  · intro b e
    rcases hn with hn | ⟨g, hg, hl⟩
    · exact h.bo b (hn ▸ e)
    · rw [hg] at e
      injection e with e
      subst e
      have := h.only.size
      have hO := h.o.lt O2 (.inl rfl)
      exact ⟨by omega, by omega, fun e2 => by have := (h.ln g e2).2; omega⟩
  · rintro b (e | e)
    · rw [e]; exact .inr h.lo
    · exact .inr (h.bo b e).1
  · rintro b e (e2 | e2)
    · exact (h.ln b e).1 e2
    · exact (h.bo b e2).2.2 e
theorem put_fresh {T : Nat} {OO : OutS} {m : MIn} {j : Nat} {y : Snd} (h : Sf K txS T OO m G) (hK : K ≤ 40) (hy : OO.l[j]? = some y) : putO ⟨OO.acked, (OO.l.take j).map fresh⟩ y.x = (0, ⟨OO.acked, (OO.l.take (j + 1)).map fresh⟩) := by
  have hj := (List.getElem?_eq_some_iff.1 hy).1
  have htot := h.tot
  have hx := h.item j y hy
  have hl : ((OO.l.take j).map fresh).length = j := by rw [List.length_map, List.length_take]; omega
  have hs := txS_size (OO.acked + j + 1)
  have hn : y.x.n = ((OO.acked + j + 1 : Nat) : Int) := by rw [hx]; rfl
  have ht : y.x.t = txS (OO.acked + j + 1) := by rw [hx]; rfl
  unfold putO OutS.last
  simp only [hl, hn, ht]
  rw [if_neg (by omega), if_neg (by omega), if_neg (by omega), if_neg (by omega), List.take_add_one, hy]
  simp [fresh]
theorem fresh_all (OO : OutS) : (⟨OO.acked, (OO.l.take OO.l.length).map fresh⟩ : OutS) = freshO OO := by
  rw [List.take_length]
  rfl
theorem next_lv {j : Nat} {s3 : Ls} {G3 : List It} (h : 30 ≤ j → Lv K eAs (280 - j) s) (hst : ∀ f, Lv K eAs (f + 1) s → Lv K eAs f s3) (hk : Lk K txS eDs eAs s3 G3) (hj : j < 280) : 30 ≤ j + 1 → Lv K eAs (280 - (j + 1)) s3 := by
  intro h30
  by_cases hj30 : 30 ≤ j
  · exact hst _ (by rw [show 280 - (j + 1) + 1 = 280 - j by omega]; exact h hj30)
  · rw [show 280 - (j + 1) = 250 by omega]
    exact lv_start hk
end
set_option maxRecDepth 100000 in
set_option maxHeartbeats 32000000 in
theorem lawRestarts (A : Option Addr) (n c : Nat) (C : List UInt8) {w : World} (HX : Given w 1 A n c (byteVals' C)) (b1 : UInt8) (A2 : Option Addr) (n2 c2 : Nat) (C2 : List UInt8) (HX2 : Given w 1 A2 n2 c2 (byteVals' C2)) (hs : Std w) : Calls Tryd.prog 10 #[.slice A n c, .int .u8 b1.toNat, .slice A2 n2 c2] w fun e w' => e = .returned (.bool true) ∧ Only Nobody w w' := by
  have HXX := Lib.hid HX
  have HXR := Lib.hid HX2
  have HS := Lib.hid hs
  have HCN : Hid (C.length = n) := Lib.hid (given_len HX)
  have HCN2 : Hid (C2.length = n2) := Lib.hid (given_len HX2)
  obtain ⟨K, HKE, hK⟩ : ∃ K, Hid (b1.toNat % 41 = K) ∧ K ≤ 40 := ⟨_, Lib.hid rfl, by omega⟩
  have hb1 := b1.toNat_lt
  obtain ⟨B1, HB1⟩ : ∃ B1 : Nat, Hid (b1.toNat = B1) := ⟨_, Lib.hid rfl⟩
  rw [HB1.out] at HKE hb1 ⊢
  have hk1 : ((B1 : Int)).tmod 41 = (K : Int) := by rw [← HKE.out]; rfl
  have hk2 : (B1 : Int) % 41 = (K : Int) := by rw [← HKE.out]; rfl
  have hw1 : IntKind.i64.wrap (B1 : Int) = (B1 : Int) := by simp [IntKind.wrap, IntKind.signed, IntKind.bits]; omega
  clear HX HX2 hs
  go_enter Tryd.func10, Tryd.ntmps10
  go_wp2_with fail
  refine (known_any _ HS.out.tab).mono ?_
  rintro e w1 ⟨rfl, ho1⟩
  have HO1 := Lib.hid ho1
  clear ho1
  by_cases h60 : 60 < n ∨ 30 < n2
  · by_cases h6 : 60 < n
    · have h60I : (60 : Int) < (n : Int) := by omega
      clear h60
      go_wp2_with fail
      refine (known_any _ (HS.out.same HO1.out).tab).mono ?_
      rintro e w2 ⟨rfl, ho2⟩
      have HO2 := Lib.hid (HO1.out.trans ho2)
      clear ho2
      go_wp2_with fail
      go_ret
      exact ⟨rfl, HO2.out⟩
    · have h60I : ¬ (60 : Int) < (n : Int) := by omega
      have h30I : (30 : Int) < (n2 : Int) := by omega
      clear h60
      go_wp2_with fail
      refine (known_any _ (HS.out.same HO1.out).tab).mono ?_
      rintro e w2 ⟨rfl, ho2⟩
      have HO2 := Lib.hid (HO1.out.trans ho2)
      clear ho2
      go_wp2_with fail
      go_ret
      exact ⟨rfl, HO2.out⟩
  · have h60I : ¬ (60 : Int) < (n : Int) := by omega
    have h30I : ¬ (30 : Int) < (n2 : Int) := by omega
    have hn60 : n ≤ 60 := by omega
    have hn30 : n2 ≤ 30 := by omega
    clear h60
    go_wp2_with fail
    refine (new_given HXX.out (HO1.out.below_all (fun _ _ x => x))).mono ?_
    rintro e w2 ⟨N, F, rfl, hn2, ho2, _⟩
    have HN2 := Lib.hid hn2
    clear hn2 ho2
    go_wp2_with fail
    refine (begin_any K hK w2).mono ?_
    rintro e w3 ⟨X, O, I, v, rfl, hb3⟩
    have HL3 := Lib.hid (start_lw HN2.out (by rw [HCN.out]; omega) hb3)
    clear hb3 hk1 hk2 hw1 hb1
    obtain ⟨s0, HS0⟩ : ∃ s0, Hid (s0 = (⟨0, 0, C.length, false, [], ⟨0, putL txS K⟩, ⟨0, []⟩⟩ : Ls)) := ⟨_, Lib.hid rfl⟩
    have HT0 : Hid (s0.T = 0 ∧ s0.cut = false) := Lib.hid (by rw [HS0.out]; exact ⟨rfl, rfl⟩)
    rw [← HS0.out] at HL3
    go_wp2_with fail
    go_loopw [11] (fun kv wx => ∃ (j nn O I : Nat) (s : Ls) (G : List It), kv = .int .i64 (j : Int) ∧ j ≤ 280 ∧ nn ≤ 311 * j ∧ Hid (Lw w wx (fun _ => False) N X O I K nn s G) ∧ Hid (s.T = j ∧ s.cut = false) ∧ Hid (30 ≤ j → Lv K eAs (280 - j) s)) (fun kv _ => 280 - (intOf kv).toNat)
    case atStart => exact ⟨0, 0, O, I, s0, [], rfl, Nat.zero_le _, Nat.le_refl _, HL3, HT0, Lib.hid (fun h => absurd h (by omega))⟩
    case round =>
      clear HL3
      obtain ⟨j, nn, O, I, s, G, rfl, hj, hnn, HLj, HTj, HVj⟩ := hrel
      have hj0 : (0 : Int) ≤ (j : Int) := by omega
      by_cases hj28 : j < 280
      · have hjI : (j : Int) < 280 := by omega
        by_cases hjn : j < n2
        · have hjnI : (j : Int) < (n2 : Int) := by omega
          obtain ⟨ad, u, hA, hadb, hu, hcell⟩ := HXR.out.rd.at_ hjn
          subst hA
          obtain ⟨r, hr⟩ : ∃ r : UInt8, u = .int .u8 (r.toNat : Int) := by
            unfold byteVals' at hu
            rw [List.getElem?_map] at hu
            cases hc : C2[j]? with
            | none => rw [hc] at hu; cases hu
            | some r => rw [hc] at hu; exact ⟨r, by simpa using hu.symm⟩
          subst hr
          obtain ⟨R, HR, hR⟩ : ∃ R : Nat, Hid (r.toNat = R) ∧ R < 256 := ⟨_, Lib.hid rfl, r.toNat_lt⟩
          rw [HR.out] at hcell
          have HRC : Hid (∀ w', Below w.heap.size w w' → w'.cell? (ad.add j) = some (.int .u8 (R : Int))) := Lib.hid fun w' hb => (hb.cell (by rw [block_of_add]; exact hadb)).trans hcell
          have hcr := HRC.out wr HLj.out.bel
          clear hu hcell hadb
          have hj30 : j < 30 := by omega
          by_cases hr1 : R % 4 = 1
          · have hm1 : ((R : Int)).tmod 4 = 1 := by have h9 : ((R : Int)).tmod 4 = ((R % 4 : Nat) : Int) := rfl
                                                    rw [h9, hr1]; rfl
            have hm2 : (R : Int) % 4 = 1 := by omega
            clear hr1
            obtain ⟨_, x1, x3, xf3⟩ := HLj.out.cells
            obtain ⟨tk, HTK⟩ : ∃ tk, Hid (s.m.taken = tk) := ⟨_, Lib.hid rfl⟩
            have htk : tk ≤ 40 := by rw [← HTK.out]; have := HLj.out.lk.sf.le2; omega
            have HTA := Lib.hid (taken_lw HLj.out)
            rw [HTK.out] at HTA
            go_wp2_with fail
            refine HTA.out.mono ?_
            rintro e w4 ⟨rfl, rfl⟩
            go_wp2_with fail
            refine (newInbox_ok tk (by omega) _).mono ?_
            rintro e w5 ⟨rfl, hi5, hb5⟩
            have HO5 : Hid (Only Nobody wr w5) := Lib.hid (Only.of_below hb5 Nobody)
            have HI5 := Lib.hid hi5
            have HL5 := Lib.hid (HLj.out.same HO5.out)
            obtain ⟨I2, HI2⟩ : ∃ I2, Hid (wr.heap.size = I2) := ⟨_, Lib.hid rfl⟩
            rw [HI2.out] at HI5 ⊢
            have HL8 := Lib.hid (newI_lw HLj.out HO5.out (by rw [HTK.out]; exact HI5.out) (by rw [HI2.out]; exact Nat.le_refl _))
            clear hi5 hb5 x1 x3 xf3
            obtain ⟨_, x1, x3, xf3⟩ := HL5.out.cells
            have x1f : w5.frozen? ⟨X, 1, none⟩ = false := HL5.out.fro 1
            have hcr8 := HRC.out _ HL8.out.bel
            clear hcr
            have HSTP := Lib.hid (step_any hK HL8.out (by omega) HS.out (by have h := HTj.out.1; show s.T ≤ 300; omega))
            go_wp2_with fail
            refine HSTP.out.mono ?_
            rintro e w15 ⟨rfl, n3, s3, G3, hl5, hn3, hT3, _, hc3, hv3, _⟩
            have HL15 := Lib.hid hl5
            have HT15 : Hid (s3.T = j + 1 ∧ s3.cut = false) := Lib.hid (by rw [hT3, hc3]; exact ⟨by show s.T + 1 = _; rw [HTj.out.1], HTj.out.2⟩)
            have HV15 : Hid (30 ≤ j + 1 → Lv K eAs (280 - (j + 1)) s3) := Lib.hid (next_lv (fun h => absurd h (by omega)) (hv3 HTj.out.2) HL15.out.lk hj28)
            clear hl5 hT3 hc3 hv3
            have HRG := Lib.hid (right_lw hK HL15.out false (fun e => by cases e))
            go_wp2_with fail
            refine HRG.out.mono ?_
            rintro e w16 ⟨rfl, ho6⟩
            have HL16 := Lib.hid (HL15.out.same ho6)
            clear ho6
            go_wp2_with fail
            go_roundw
            case rel => first | exact ⟨j + 1, n3, O, I2, s3, G3, by go_num, by omega, by omega, HL16, HT15, HV15⟩ | ((repeat apply Exists.intro); exact ⟨⟨j + 1, n3, O, I2, s3, G3, by go_num, by omega, by omega, HL16, HT15, HV15⟩, rfl⟩)
            case measure => simp [intOf]; omega
          · by_cases hr2 : R % 4 = 2
            · have hm1 : ((R : Int)).tmod 4 = 2 := by have h9 : ((R : Int)).tmod 4 = ((R % 4 : Nat) : Int) := rfl
                                                      rw [h9, hr2]; rfl
              have hm2 : (R : Int) % 4 = 2 := by omega
              clear hr1 hr2
              obtain ⟨wo, rfl⟩ : ∃ wa, wa = wr := ⟨_, rfl⟩
              have HSF := Lib.hid HLj.out.lk.sf
              obtain ⟨x0, _, x3, xf3⟩ := HLj.out.cells
              obtain ⟨ak, HAKD⟩ : ∃ ak, Hid (s.O.acked = ak) := ⟨_, Lib.hid rfl⟩
              obtain ⟨ql, HQL⟩ : ∃ ql, Hid (s.O.l.length = ql) := ⟨_, Lib.hid rfl⟩
              have hak : ak + ql = K := by rw [← HAKD.out, ← HQL.out]; exact HSF.out.tot
              have HPE : Hid (Calls Tryd.prog 34 #[.pointer (some ⟨O, 0, none⟩)] wo fun e w' => ∃ v, e = .returned v ∧ w'.ownsRow wo.heap.size 36 2 v ql (itsC (s.O.l.map (·.x))) ∧ Only Nobody wo w') := Lib.hid (by
                have h := pend_row HLj.out (by rw [HQL.out]; omega)
                rw [HQL.out] at h
                exact h)
              go_wp2_with fail
              refine HPE.out.mono ?_
              rintro e w4 ⟨lv, rfl, hr4, ho4⟩
              obtain ⟨Al, cl, rfl⟩ := own_form hr4
              have HR4 := Lib.hid hr4
              have HO4 := Lib.hid ho4
              have HL4 := Lib.hid (HLj.out.same ho4)
              clear hr4 ho4 x0 x3 xf3
              obtain ⟨x0, _, _, _⟩ := HL4.out.cells
              have HAC := Lib.hid (acked_lw HL4.out)
              rw [HAKD.out] at HAC
              go_wp2_with fail
              refine HAC.out.mono ?_
              rintro e w4' ⟨rfl, rfl⟩
              go_wp2_with fail
              refine (newOutbox_ok ak (by omega) _).mono ?_
              rintro e w5 ⟨rfl, hi5, hb5⟩
              have HO5 : Hid (Only Nobody w4 w5) := Lib.hid (Only.of_below hb5 Nobody)
              have HRB : Hid (Rb wo w5 w4.heap.size ak ((s.O.l.take 0).map fresh) (.slice none 0 0) (.slice Al ql cl)) := Lib.hid ⟨by rw [List.take_zero]; exact hi5, HO4.out.size, fun b e => (by cases e), fun b e => (by have h9 := (HR4.out.lt b e).2; exact ⟨by omega, Nat.lt_of_lt_of_le h9 HO5.out.size⟩), HO4.out.trans HO5.out⟩
              have HROW : Hid (w5.ownsRow wo.heap.size 36 2 (.slice Al ql cl) ql (itsC (s.O.l.map (·.x)))) := Lib.hid (HO5.out.row HR4.out (fun _ _ x => x))
              obtain ⟨O2, HO2⟩ : ∃ O2, Hid (w4.heap.size = O2) := ⟨_, Lib.hid rfl⟩
              rw [HO2.out] at HRB ⊢
              clear hi5 hb5 x0
              go_wp2_with fail
              go_loopw [16, 17] (fun ev kv wx => ∃ (i : Nat) (v : Value), ev = .int .i64 0 ∧ kv = .int .i64 (i : Int) ∧ i ≤ ql ∧ Hid (Rb wo wx O2 ak ((s.O.l.take i).map fresh) v (.slice Al ql cl)) ∧ Hid (wx.ownsRow wo.heap.size 36 2 (.slice Al ql cl) ql (itsC (s.O.l.map (·.x))))) (fun _ kv _ => ql - (intOf kv).toNat)
              case atStart => exact ⟨0, _, rfl, rfl, Nat.zero_le _, HRB, HROW⟩
              case round =>
                obtain ⟨i, v2, rfl, rfl, hi, HRi, HRWi⟩ := hrel
                have hi0 : (0 : Int) ≤ (i : Int) := by omega
                by_cases hiq : i < ql
                · have hiI : (i : Int) < (ql : Int) := by omega
                  obtain ⟨y, hy⟩ : ∃ y, s.O.l[i]? = some y := ⟨_, List.getElem?_eq_getElem (by rw [HQL.out]; exact hiq)⟩
                  obtain ⟨g, hA, hbg, hgl, hqc, hcells⟩ := it_at (by rw [List.length_map]; exact HQL.out) HRWi.out (by omega)
                  subst hA
                  obtain ⟨a0, a1⟩ := hcells i y.x (by rw [List.getElem?_map, hy]; rfl)
                  have HPF := Lib.hid (put_fresh HSF.out hK hy)
                  rw [HAKD.out] at HPF
                  obtain ⟨xi, HXI⟩ : ∃ xi, Hid (y.x = xi) := ⟨_, Lib.hid rfl⟩
                  rw [HXI.out] at a0 a1 HPF
                  have HPU : Hid (∀ w', Only Nobody wr w' → Calls Tryd.prog 24 #[.pointer (some ⟨O2, 0, none⟩), .agg #[.int .i64 xi.n, .string xi.t]] w' fun e w'' => e = .returned (.int .i64 0) ∧ ∃ v', Rb wo w'' O2 ak ((s.O.l.take (i + 1)).map fresh) v' (.slice (some ⟨g, 0, none⟩) ql cl) ∧ w''.ownsRow wo.heap.size 36 2 (.slice (some ⟨g, 0, none⟩) ql cl) ql (itsC (s.O.l.map (·.x)))) := Lib.hid fun w' ho => by
                    have hb := HRi.out.same ho
                    have h1 := put_ox O2 ⟨ak, (s.O.l.take i).map fresh⟩ v2 xi w' hb.o (by show ak ≤ _; omega) (by rw [List.length_map, List.length_take]; omega)
                    rw [HPF.out] at h1
                    exact h1.mono fun e w'' ⟨h2, v', h3, h4, h5⟩ => ⟨h2, v', (hb.put h3 h4 h5).1, h4.row (ho.row HRWi.out (fun _ _ x => x)) (fun b e e2 => (hb.put h3 h4 h5).2 b e e2)⟩
                  clear hy hcells
                  go_wp2_with fail
                  refine (HPU.out _ (by repeat (first | with_reducible exact Only.refl _ _ | with_reducible refine Only.drew ?_ | with_reducible refine Only.alloc ?_ _))).mono ?_
                  rintro e w7 ⟨rfl, v7, hrb7, hrw7⟩
                  have HRB7 := Lib.hid hrb7
                  have HRW7 := Lib.hid hrw7
                  clear hrb7 hrw7
                  go_wp2_with fail
                  go_roundw
                  case rel => first | exact ⟨i + 1, v7, rfl, by go_num, by omega, HRB7, HRW7⟩ | ((repeat apply Exists.intro); exact ⟨⟨i + 1, v7, rfl, by go_num, by omega, HRB7, HRW7⟩, rfl⟩)
                  case measure => simp [intOf]; omega
                · have hiE : i = ql := by omega
                  have HOW : Hid (OutAt wr O2 (freshO s.O) v2) := Lib.hid (by
                    have h := HRi.out.o
                    rw [hiE, ← HQL.out, ← HAKD.out, fresh_all] at h
                    exact h)
                  have hiI : ¬ (i : Int) < (ql : Int) := by omega
                  have HL8 := Lib.hid (newO_lw HLj.out HRi.out.only HOW.out HRi.out.lo (fun b e => ⟨(HRi.out.bo b e).1, (HRi.out.bo b e).2.1⟩))
                  have HLR := Lib.hid (HLj.out.same HRi.out.only)
                  obtain ⟨_, _, x3, xf3⟩ := HLR.out.cells
                  have x0f := HLR.out.fro 0
                  clear hiE
                  have HSTP := Lib.hid (step_any hK HL8.out (by omega) HS.out (by have h := HTj.out.1; show s.T ≤ 300; omega))
                  go_wp2_with fail
                  refine HSTP.out.mono ?_
                  rintro e w15 ⟨rfl, n3, s3, G3, hl5, hn3, hT3, _, hc3, hv3, _⟩
                  have HL15 := Lib.hid hl5
                  have HT15 : Hid (s3.T = j + 1 ∧ s3.cut = false) := Lib.hid (by rw [hT3, hc3]; exact ⟨by show s.T + 1 = _; rw [HTj.out.1], HTj.out.2⟩)
                  have HV15 : Hid (30 ≤ j + 1 → Lv K eAs (280 - (j + 1)) s3) := Lib.hid (next_lv (fun h => absurd h (by omega)) (hv3 HTj.out.2) HL15.out.lk hj28)
                  clear hl5 hT3 hc3 hv3
                  have HRG := Lib.hid (right_lw hK HL15.out false (fun e => by cases e))
                  go_wp2_with fail
                  refine HRG.out.mono ?_
                  rintro e w16 ⟨rfl, ho6⟩
                  have HL16 := Lib.hid (HL15.out.same ho6)
                  clear ho6
                  go_wp2_with fail
                  go_roundw
                  case rel => first | exact ⟨j + 1, n3, O2, I, s3, G3, by go_num, by omega, by omega, HL16, HT15, HV15⟩ | ((repeat apply Exists.intro); exact ⟨⟨j + 1, n3, O2, I, s3, G3, by go_num, by omega, by omega, HL16, HT15, HV15⟩, rfl⟩)
                  case measure => simp [intOf]; omega
            · obtain ⟨q4, HQ4, hq41, hq42⟩ : ∃ q4 : Nat, Hid (R % 4 = q4) ∧ q4 ≠ 1 ∧ q4 ≠ 2 := ⟨_, Lib.hid rfl, hr1, hr2⟩
              have hm1 : ((R : Int)).tmod 4 = (q4 : Int) := by rw [← HQ4.out]; rfl
              have hm2 : (R : Int) % 4 = (q4 : Int) := by rw [← HQ4.out]; rfl
              have hq1 : ((q4 : Int) == 1) = false := by simp; omega
              have hq3 : ¬ (q4 : Int) = 1 := by omega
              have hq4 : ¬ (q4 : Int) = 2 := by omega
              have hq2 : ((q4 : Int) == 2) = false := by simp; omega
              clear hr1 hr2
              have HSTP := Lib.hid (step_any hK HLj.out (by omega) HS.out (by have h := HTj.out.1; show s.T ≤ 300; omega))
              go_wp2_with fail
              refine HSTP.out.mono ?_
              rintro e w15 ⟨rfl, n3, s3, G3, hl5, hn3, hT3, _, hc3, hv3, _⟩
              have HL15 := Lib.hid hl5
              have HT15 : Hid (s3.T = j + 1 ∧ s3.cut = false) := Lib.hid (by rw [hT3, hc3]; exact ⟨by show s.T + 1 = _; rw [HTj.out.1], HTj.out.2⟩)
              have HV15 : Hid (30 ≤ j + 1 → Lv K eAs (280 - (j + 1)) s3) := Lib.hid (next_lv (HVj.out) (hv3 HTj.out.2) HL15.out.lk hj28)
              clear hl5 hT3 hc3 hv3
              have HRG := Lib.hid (right_lw hK HL15.out false (fun e => by cases e))
              go_wp2_with fail
              refine HRG.out.mono ?_
              rintro e w16 ⟨rfl, ho6⟩
              have HL16 := Lib.hid (HL15.out.same ho6)
              clear ho6
              go_wp2_with fail
              go_roundw
              case rel => first | exact ⟨j + 1, n3, O, I, s3, G3, by go_num, by omega, by omega, HL16, HT15, HV15⟩ | ((repeat apply Exists.intro); exact ⟨⟨j + 1, n3, O, I, s3, G3, by go_num, by omega, by omega, HL16, HT15, HV15⟩, rfl⟩)
              case measure => simp [intOf]; omega
        · have hjnI : ¬ (j : Int) < (n2 : Int) := by omega
          have HSTP := Lib.hid (step_any hK HLj.out (by omega) HS.out (by have h := HTj.out.1; show s.T ≤ 300; omega))
          go_wp2_with fail
          refine HSTP.out.mono ?_
          rintro e w15 ⟨rfl, n3, s3, G3, hl5, hn3, hT3, _, hc3, hv3, _⟩
          have HL15 := Lib.hid hl5
          have HT15 : Hid (s3.T = j + 1 ∧ s3.cut = false) := Lib.hid (by rw [hT3, hc3]; exact ⟨by show s.T + 1 = _; rw [HTj.out.1], HTj.out.2⟩)
          have HV15 : Hid (30 ≤ j + 1 → Lv K eAs (280 - (j + 1)) s3) := Lib.hid (next_lv (HVj.out) (hv3 HTj.out.2) HL15.out.lk hj28)
          clear hl5 hT3 hc3 hv3
          have HRG := Lib.hid (right_lw hK HL15.out false (fun e => by cases e))
          go_wp2_with fail
          refine HRG.out.mono ?_
          rintro e w16 ⟨rfl, ho6⟩
          have HL16 := Lib.hid (HL15.out.same ho6)
          clear ho6
          go_wp2_with fail
          go_roundw
          case rel => first | exact ⟨j + 1, n3, O, I, s3, G3, by go_num, by omega, by omega, HL16, HT15, HV15⟩ | ((repeat apply Exists.intro); exact ⟨⟨j + 1, n3, O, I, s3, G3, by go_num, by omega, by omega, HL16, HT15, HV15⟩, rfl⟩)
          case measure => simp [intOf]; omega
      · obtain rfl : j = 280 := by omega
        obtain ⟨he1, he2, he3⟩ := lv_end HLj.out.lk (HVj.out (by omega))
        have HE1 := Lib.hid he1
        have HRG := Lib.hid (right_lw hK HLj.out true (fun _ => he3))
        clear he1 he2 he3
        go_wp2_with fail
        refine HRG.out.mono ?_
        rintro e w6 ⟨rfl, ho6⟩
        have HL6 := Lib.hid (HLj.out.same ho6)
        clear ho6
        obtain ⟨x0, _, _, _⟩ := HL6.out.cells
        go_wp2_with fail
        refine (pend_lw HL6.out HE1.out).mono ?_
        rintro e w7 ⟨⟨Ap, cp, rfl⟩, ho7⟩
        have HL7 := Lib.hid (HL6.out.same ho7)
        clear ho7 x0
        go_wp2_with fail
        go_ret
        exact ⟨rfl, Only.of_below HL7.out.bel Nobody⟩
end Go.Proofs.YthmndclmecnpmaaDoor
