/- Exchange: a link at the level of a law; the law ExchangeDelivers. -/
import Derived.Test.YthmndclmecnpmaaDoorLnC
namespace Go.Proofs.YthmndclmecnpmaaDoor
open Go.RowKit
open Nw (Net NetS netSendAll netTake netLeft pksOf Grows Small)
attribute [local go_sem ↓] Go.wp_at_zero Go.wp_at_succ

theorem given_len {w0 : World} {A : Option Addr} {n c : Nat} {X : List UInt8} (h : Given w0 1 A n c (byteVals' X)) : X.length = n := by
  have := h.rd.1
  simpa [byteVals'] using this
theorem new_given {w0 w : World} {A : Option Addr} {n c : Nat} {X : List UInt8} (h : Given w0 1 A n c (byteVals' X)) (hb : Below w0.heap.size w0 w) :
    Calls Tryd.prog 39 #[.slice A n c] w fun e w' => ∃ N F, e = .returned (.pointer (some ⟨N, 0, none⟩)) ∧ Net w0 w' F N (Nw.newNet X) ∧ Only Nobody w w' ∧ ∀ b, F b → w.heap.size ≤ b := by
  refine Nw.new_net w0 w A n c X hb ?_ (by have := h.rch; have := reachBytes_lt; omega)
  rcases A with _ | ad
  · obtain ⟨h1, h2⟩ := h.nil rfl
    have hl := h.rd.1
    rw [h1] at hl
    simp [byteVals'] at hl
    exact .inl ⟨rfl, h1, h2, hl⟩
  · exact .inr ⟨ad, rfl, (h.rd.below hb).more hb.size⟩
section
variable {w0 w w' : World} {Z : Nat → Prop} {N X O I K n : Nat} {s : Ls} {G : List It}
theorem Lw.same (h : Lw w0 w Z N X O I K n s G) (ho : Only Nobody w w') : Lw w0 w' Z N X O I K n s G := by
  obtain ⟨S, IS, h1, h2⟩ := h
  exact ⟨S, IS, h1.same ho, h2⟩
theorem Lw.bel (h : Lw w0 w Z N X O I K n s G) : Below w0.heap.size w0 w := by
  obtain ⟨S, IS, h1, h2⟩ := h
  exact h1.bel
theorem Lw.lk (h : Lw w0 w Z N X O I K n s G) : Lk K txS eDs eAs s G := by
  obtain ⟨S, IS, h1, h2, h3, h4, h5⟩ := h
  exact h5
theorem Lw.cells (h : Lw w0 w Z N X O I K n s G) : w.cell? ⟨X, 0, none⟩ = some (.pointer (some ⟨O, 0, none⟩)) ∧ w.cell? ⟨X, 1, none⟩ = some (.pointer (some ⟨I, 0, none⟩)) ∧ w.cell? ⟨X, 3, none⟩ = some (.bool true) ∧ w.frozen? ⟨X, 3, none⟩ = false := by
  obtain ⟨S, IS, h1, h2⟩ := h
  exact h1.cells
theorem cut_lw (h : Lw w0 w Z N X O I K n s G) (hn : n ≤ 100000) : Calls Tryd.prog 43 #[.pointer (some ⟨N, 0, none⟩), .string ⟨#[97]⟩, .string ⟨#[98]⟩] w fun e w' => e = .returned (.tuple #[]) ∧ Lw w0 w' Z N X O I K (n + 1) { s with cut := true } G ∧ Only (fun k => ¬ Z k) w w' := by
  obtain ⟨S, IS, h1, h2, h3, h4, h5⟩ := h
  refine (cut_lq plA plB h1 (small_of h2 hn).ncut (by decide) (by decide)).mono fun e w' ⟨he, hq, ho⟩ => ⟨he, ⟨_, IS, hq, Nw.good_link h2 plA plB true 1 (by have := h2.ncut; omega), ⟨h3.now, h3.use, h3.len, ?_⟩, h4, h5.cut_ true⟩, ho⟩
  rw [Nw.cutB_link, if_pos rfl]
theorem join_lw (h : Lw w0 w Z N X O I K n s G) : Calls Tryd.prog 44 #[.pointer (some ⟨N, 0, none⟩), .string ⟨#[97]⟩, .string ⟨#[98]⟩] w fun e w' => e = .returned (.tuple #[]) ∧ Lw w0 w' Z N X O I K n { s with cut := false } G ∧ Only (fun k => ¬ Z k) w w' := by
  obtain ⟨S, IS, h1, h2, h3, h4, h5⟩ := h
  refine (join_lq plA plB h1 (by decide) (by decide)).mono fun e w' ⟨he, hq, ho⟩ => ⟨he, ⟨_, IS, hq, Nw.good_link h2 plA plB false 0 (by have := h2.ncut; omega), ⟨h3.now, h3.use, h3.len, ?_⟩, h4, h5.cut_ false⟩, ho⟩
  rw [Nw.cutB_link, if_pos rfl]
theorem right_lw (hK : K ≤ 40) (h : Lw w0 w Z N X O I K n s G) (all : Bool) (hall : all = true → G.length = K) : Calls Tryd.prog 42 #[.pointer (some ⟨X, 0, none⟩), .int .i64 (K : Int), .bool all] w fun e w' => e = .returned (.bool true) ∧ Only Nobody w w' := by
  obtain ⟨S, IS, h1, h2, h3, h4, h5⟩ := h
  exact right_any K hK h1 h5.right.1 h5.right.2 all hall
theorem pend_lw (h : Lw w0 w Z N X O I K n s G) (hl : s.O.l = []) : Calls Tryd.prog 34 #[.pointer (some ⟨O, 0, none⟩)] w fun e w' => (∃ A c, e = .returned (.slice A 0 c)) ∧ Only Nobody w w' := by
  obtain ⟨S, IS, ⟨F, vO, vG, h1⟩, h2⟩ := h
  refine (pending_ox O s.O vO w h1.o (by rw [hl]; simp)).mono fun e w' hp => ?_
  unfold PendPost at hp
  obtain ⟨v, he, hr, ho⟩ := hp
  obtain ⟨A, c, rfl⟩ := own_form hr
  rw [hl] at he
  exact ⟨⟨A, c, he⟩, ho⟩
theorem acked_lw (h : Lw w0 w Z N X O I K n s G) : Calls Tryd.prog 32 #[.pointer (some ⟨O, 0, none⟩)] w fun e w' => e = .returned (.int .i64 s.O.acked) ∧ w = w' := by
  obtain ⟨S, IS, h1, h2⟩ := h
  exact acked_lq h1
theorem start_lw {F : Nat → Prop} {v : Value} {C : List UInt8} (hn : Net w0 w F N (Nw.newNet C)) (hC : C.length ≤ 60) (hb : Bg w w' X O I K v) : Lw w0 w' (fun _ => False) N X O I K 0 ⟨0, 0, C.length, false, [], ⟨0, putL txS K⟩, ⟨0, []⟩⟩ [] :=
  ⟨Nw.newNet C, newIn 0, hb.link hn, Nw.good_new C (by omega), ⟨rfl, rfl, rfl, rfl⟩, inR_new 0, lk_new C.length hC false⟩
end

set_option maxRecDepth 100000 in
set_option maxHeartbeats 32000000 in
theorem lawDelivers (A : Option Addr) (n c : Nat) (C : List UInt8) {w : World} (HX : Given w 1 A n c (byteVals' C)) (b1 b2 : UInt8) (hs : Std w) : Calls Tryd.prog 11 #[.slice A n c, .int .u8 b1.toNat, .int .u8 b2.toNat] w fun e w' => e = .returned (.bool true) ∧ Only Nobody w w' := by
  have HXX := Lib.hid HX
  have HS := Lib.hid hs
  have HCN : Hid (C.length = n) := Lib.hid (given_len HX)
  obtain ⟨K, HKE, hK⟩ : ∃ K, Hid (b1.toNat % 41 = K) ∧ K ≤ 40 := ⟨_, Lib.hid rfl, by omega⟩
  obtain ⟨C30, HCE, hC30⟩ : ∃ C30, Hid (b2.toNat % 30 = C30) ∧ C30 < 30 := ⟨_, Lib.hid rfl, by omega⟩
  have hb1 := b1.toNat_lt
  have hb2 := b2.toNat_lt
  obtain ⟨B1, HB1⟩ : ∃ B1 : Nat, Hid (b1.toNat = B1) := ⟨_, Lib.hid rfl⟩
  obtain ⟨B2, HB2⟩ : ∃ B2 : Nat, Hid (b2.toNat = B2) := ⟨_, Lib.hid rfl⟩
  rw [HB1.out] at HKE hb1 ⊢
  rw [HB2.out] at HCE hb2 ⊢
  have hk1 : ((B1 : Int)).tmod 41 = (K : Int) := by rw [← HKE.out]; rfl
  have hk2 : (B1 : Int) % 41 = (K : Int) := by rw [← HKE.out]; rfl
  have hc1 : ((B2 : Int)).tmod 30 = (C30 : Int) := by rw [← HCE.out]; rfl
  have hc2 : (B2 : Int) % 30 = (C30 : Int) := by rw [← HCE.out]; rfl
  have hw1 : IntKind.i64.wrap (B1 : Int) = (B1 : Int) := by simp [IntKind.wrap, IntKind.signed, IntKind.bits]; omega
  have hw2 : IntKind.i64.wrap (B2 : Int) = (B2 : Int) := by simp [IntKind.wrap, IntKind.signed, IntKind.bits]; omega
  clear HX hs
  go_enter Tryd.func11, Tryd.ntmps11
  go_wp2_with fail
  refine (known_any _ HS.out.tab).mono ?_
  rintro e w1 ⟨rfl, ho1⟩
  have HO1 := Lib.hid ho1
  clear ho1
  by_cases h60 : 60 < n
  · have h60I : (60 : Int) < (n : Int) := by omega
    go_wp2_with fail
    refine (known_any _ (HS.out.same HO1.out).tab).mono ?_
    rintro e w2 ⟨rfl, ho2⟩
    have HO2 := Lib.hid (HO1.out.trans ho2)
    clear ho2
    go_wp2_with fail
    go_ret
    exact ⟨rfl, HO2.out⟩
  · have h60I : ¬ (60 : Int) < (n : Int) := by omega
    go_wp2_with fail
    refine (new_given HXX.out (HO1.out.below_all (fun _ _ x => x))).mono ?_
    rintro e w2 ⟨N, F, rfl, hn2, ho2, _⟩
    have HN2 := Lib.hid hn2
    clear hn2 ho2
    go_wp2_with fail
    refine (begin_any K hK w2).mono ?_
    rintro e w3 ⟨X, O, I, v, rfl, hb3⟩
    have HL3 := Lib.hid (start_lw HN2.out (by rw [HCN.out]; omega) hb3)
    clear hb3 hk1 hk2 hw1 hb1
    obtain ⟨s0, HS0⟩ : ∃ s0, Hid (s0 = (⟨0, 0, C.length, false, [], ⟨0, putL txS K⟩, ⟨0, []⟩⟩ : Ls)) := ⟨_, Lib.hid rfl⟩
    have HT0 : Hid (s0.T = 0) := Lib.hid (by rw [HS0.out])
    rw [← HS0.out] at HL3
    go_wp2_with fail
    go_loopw [11] (fun kv wx => ∃ (j nn : Nat) (s : Ls) (G : List It), kv = .int .i64 (j : Int) ∧ j ≤ 30 ∧ nn ≤ 311 * j ∧ Hid (Lw w wx (fun _ => False) N X O I K nn s G) ∧ Hid (s.T = j)) (fun kv _ => 30 - (intOf kv).toNat)
    case atStart => exact ⟨0, 0, s0, [], rfl, Nat.zero_le _, Nat.le_refl _, HL3, HT0⟩
    case round =>
      obtain ⟨j, nn, s, G, rfl, hj, hnn, HLj, HTj⟩ := hrel
      have hj0 : (0 : Int) ≤ (j : Int) := by omega
      by_cases hj30 : j < 30
      · have hjI : (j : Int) < 30 := by omega
        by_cases hjc : j = C30
        · subst hjc
          go_wp2_with fail
          refine (cut_lw HLj.out (by omega)).mono ?_
          rintro e w4 ⟨rfl, hl4, _⟩
          have HL4 := Lib.hid hl4
          clear hl4
          have HSTP := Lib.hid (step_any hK HL4.out (by omega) HS.out (by have h := HTj.out; show s.T ≤ 300; omega))
          go_wp2_with fail
          refine HSTP.out.mono ?_
          rintro e w5 ⟨rfl, n3, s3, G3, hl5, hn3, hT3, _, _, _, _⟩
          have HL5 := Lib.hid hl5
          have HT5 : Hid (s3.T = j + 1) := Lib.hid (by rw [hT3]; show s.T + 1 = _; rw [HTj.out])
          clear hl5 hT3
          have HRG := Lib.hid (right_lw hK HL5.out false (fun e => by cases e))
          go_wp2_with fail
          refine HRG.out.mono ?_
          rintro e w6 ⟨rfl, ho6⟩
          have HL6 := Lib.hid (HL5.out.same ho6)
          clear ho6
          go_wp2_with fail
          go_roundw
          case rel => first | exact ⟨j + 1, n3, s3, G3, by go_num, by omega, by omega, HL6, HT5⟩ | ((repeat apply Exists.intro); exact ⟨⟨j + 1, n3, s3, G3, by go_num, by omega, by omega, HL6, HT5⟩, rfl⟩)
          case measure => simp [intOf]; omega
        · have hjcI : ¬ (j : Int) = (C30 : Int) := by omega
          have hjcB : ((j : Int) == (C30 : Int)) = false := by simpa using hjcI
          have HL4 := HLj
          have HSTP := Lib.hid (step_any hK HL4.out (by omega) HS.out (by have h := HTj.out; show s.T ≤ 300; omega))
          go_wp2_with fail
          refine HSTP.out.mono ?_
          rintro e w5 ⟨rfl, n3, s3, G3, hl5, hn3, hT3, _, _, _, _⟩
          have HL5 := Lib.hid hl5
          have HT5 : Hid (s3.T = j + 1) := Lib.hid (by rw [hT3]; show s.T + 1 = _; rw [HTj.out])
          clear hl5 hT3
          have HRG := Lib.hid (right_lw hK HL5.out false (fun e => by cases e))
          go_wp2_with fail
          refine HRG.out.mono ?_
          rintro e w6 ⟨rfl, ho6⟩
          have HL6 := Lib.hid (HL5.out.same ho6)
          clear ho6
          go_wp2_with fail
          go_roundw
          case rel => first | exact ⟨j + 1, n3, s3, G3, by go_num, by omega, by omega, HL6, HT5⟩ | ((repeat apply Exists.intro); exact ⟨⟨j + 1, n3, s3, G3, by go_num, by omega, by omega, HL6, HT5⟩, rfl⟩)
          case measure => simp [intOf]; omega
      · obtain rfl : j = 30 := by omega
        clear hc1 hc2 hw2 hb2
        go_wp2_with fail
        refine (join_lw HLj.out).mono ?_
        rintro e w4 ⟨rfl, hl4, _⟩
        have HL4 := Lib.hid hl4
        clear hl4
        obtain ⟨s4, HS4⟩ : ∃ s4, Hid (s4 = { s with cut := false }) := ⟨_, Lib.hid rfl⟩
        rw [← HS4.out] at HL4
        have HT4 : Hid (s4.T = 30 + 0 ∧ s4.cut = false) := Lib.hid (by rw [HS4.out]; exact ⟨HTj.out, rfl⟩)
        have HV4 := Lib.hid (lv_start HL4.out.lk)
        go_wp2_with fail
        go_loopw [12] (fun kv wx => ∃ (i n2 : Nat) (s : Ls) (G : List It), kv = .int .i64 (i : Int) ∧ i ≤ 250 ∧ n2 ≤ 311 * (30 + i) ∧ Hid (Lw w wx (fun _ => False) N X O I K n2 s G) ∧ Hid (s.T = 30 + i ∧ s.cut = false) ∧ Hid (Lv K eAs (250 - i) s)) (fun kv _ => 250 - (intOf kv).toNat)
        case atStart => exact ⟨0, nn, s4, G, rfl, Nat.zero_le _, by omega, HL4, HT4, HV4⟩
        case round =>
          clear hj0
          obtain ⟨i, n2, s2, G2, rfl, hi, hn2, HLi, HTi, HVi⟩ := hrel
          have hi0 : (0 : Int) ≤ (i : Int) := by omega
          by_cases hi25 : i < 250
          · have hiI : (i : Int) < 250 := by omega
            have HSTP := Lib.hid (step_any hK HLi.out (by omega) HS.out (by have := HTi.out.1; omega))
            go_wp2_with fail
            refine HSTP.out.mono ?_
            rintro e w5 ⟨rfl, n3, s3, G3, hl5, hn3, hT3, _, hc3, hv3, _⟩
            have HL5 := Lib.hid hl5
            have HT5 : Hid (s3.T = 30 + (i + 1) ∧ s3.cut = false) := Lib.hid (by rw [hT3, hc3, HTi.out.1, HTi.out.2]; exact ⟨by omega, rfl⟩)
            have HV5 : Hid (Lv K eAs (250 - (i + 1)) s3) := Lib.hid (hv3 HTi.out.2 (250 - (i + 1)) (by rw [show 250 - (i + 1) + 1 = 250 - i by omega]; exact HVi.out))
            clear hl5 hT3 hc3 hv3
            have HRG := Lib.hid (right_lw hK HL5.out false (fun e => by cases e))
            go_wp2_with fail
            refine HRG.out.mono ?_
            rintro e w6 ⟨rfl, ho6⟩
            have HL6 := Lib.hid (HL5.out.same ho6)
            clear ho6
            go_wp2_with fail
            go_roundw
            case rel => first | exact ⟨i + 1, n3, s3, G3, by go_num, by omega, by omega, HL6, HT5, HV5⟩ | ((repeat apply Exists.intro); exact ⟨⟨i + 1, n3, s3, G3, by go_num, by omega, by omega, HL6, HT5, HV5⟩, rfl⟩)
            case measure => simp [intOf]; omega
          · obtain rfl : i = 250 := by omega
            obtain ⟨he1, he2, he3⟩ := lv_end HLi.out.lk HVi.out
            have HE1 := Lib.hid he1
            have HE2 := Lib.hid he2
            have HRG := Lib.hid (right_lw hK HLi.out true (fun _ => he3))
            clear he1 he2 he3
            obtain ⟨x0, _, _, _⟩ := HLi.out.cells
            go_wp2_with fail
            refine HRG.out.mono ?_
            rintro e w6 ⟨rfl, ho6⟩
            have HL6 := Lib.hid (HLi.out.same ho6)
            clear ho6 x0
            obtain ⟨x0, _, _, _⟩ := HL6.out.cells
            go_wp2_with fail
            refine (pend_lw HL6.out HE1.out).mono ?_
            rintro e w7 ⟨⟨Ap, cp, rfl⟩, ho7⟩
            have HL7 := Lib.hid (HL6.out.same ho7)
            clear ho7 x0
            obtain ⟨x0, _, _, _⟩ := HL7.out.cells
            go_wp2_with fail
            refine (acked_lw HL7.out).mono ?_
            rintro e w8 ⟨rfl, rfl⟩
            rw [HE2.out]
            go_wp2_with fail
            go_ret
            exact ⟨rfl, Only.of_below HL7.out.bel Nobody⟩
end Go.Proofs.YthmndclmecnpmaaDoor
