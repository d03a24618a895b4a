/- Exchange: the start of a link, and what has been taken of it. -/
import Derived.Test.YthmndclmecnpmaaDoorLnB
import Derived.Test.YthmndclmecnpmaaDoorExOps
namespace Go.Proofs.YthmndclmecnpmaaDoor
open Go.RowKit
open Nw (Net NetS netSendAll netTake netLeft pksOf Grows Small)
attribute [local go_sem ↓] Go.wp_at_zero Go.wp_at_succ

theorem put_next {j : Nat} (hj : j < 60) : putO ⟨0, putL txS j⟩ (itm txS (j + 1)) = (0, ⟨0, putL txS (j + 1)⟩) := by
  have hl : (putL txS j).length = j := putL_len j
  have hs := txS_size (j + 1)
  have hn : (itm txS (j + 1)).n = ((j + 1 : Nat) : Int) := rfl
  have ht : (itm txS (j + 1)).t = txS (j + 1) := rfl
  unfold putO OutS.last
  simp only [hl, hn, ht]
  rw [if_neg (by omega), if_neg (by omega), if_neg (by omega), if_neg (by omega), putL_succ]
/-- What begin makes: the side at X, its outbox at O, its inbox at I. -/
structure Bg (w w' : World) (X O I k : Nat) (v : Value) : Prop where
  x : Blk w' X 76 #[.pointer (some ⟨O, 0, none⟩), .pointer (some ⟨I, 0, none⟩), .slice none 0 0, .bool true]
  o : OutAt w' O ⟨0, putL txS k⟩ v
  i : InAt w' I (newIn 0)
  xo : X ≠ O
  xi : X ≠ I
  oi : O ≠ I
  lo : w.heap.size ≤ X ∧ w.heap.size ≤ O ∧ w.heap.size ≤ I
  bo : ∀ b, v.ownBlock = some b → w.heap.size ≤ b ∧ b ≠ X ∧ b ≠ O ∧ b ≠ I
  only : Only Nobody w w'
theorem Bg.same {w w' w2 : World} {X O I k : Nat} {v : Value} (h : Bg w w' X O I k v) (ho : Only Nobody w' w2) : Bg w w2 X O I k v :=
  ⟨ho.blk h.x (fun x => x), h.o.same ho, ho.blk h.i (fun x => x), h.xo, h.xi, h.oi, h.lo, h.bo, h.only.trans ho⟩
theorem Bg.put {w w' w2 : World} {X O I k : Nat} {v v' : Value} (h : Bg w w' X O I k v) (h1 : OutAt w2 O ⟨0, putL txS (k + 1)⟩ v') (ho : Only (OwnO O v) w' w2) (hn : v'.ownBlock = v.ownBlock ∨ ∃ g, v'.ownBlock = some g ∧ w'.heap.size ≤ g) : Bg w w2 X O I (k + 1) v' := by
  have hX := h.x.lt
  have hO := h.o.lt O (.inl rfl)
  have hI := Blk.lt h.i
  refine ⟨ho.blk h.x ?_, h1, ho.blk h.i ?_, h.xo, h.xi, h.oi, h.lo, ?_, h.only.trans_more (ho.mono ?_)⟩
  · rintro (e | e)
    · exact h.xo e
    · exact (h.bo X e).2.1 rfl
  · rintro (e | e)
    · exact h.oi e.symm
    · exact (h.bo I e).2.2.2 rfl
  · intro b e
    rcases hn with hn | ⟨g, hg, hl⟩
    · exact h.bo b (hn ▸ e)
    · rw [hg] at e
      injection e with e
      subst e
      have := h.only.size
      exact ⟨by omega, by omega, by omega, by omega⟩
  · rintro b (e | e)
    · rw [e]; exact .inr h.lo.2.1
    · exact .inr (h.bo b e).1
/-- The link at its start. -/
theorem Bg.link {w0 w w' : World} {F : Nat → Prop} {N X O I k : Nat} {v : Value} {S : NetS} (hn : Net w0 w F N S) (h : Bg w w' X O I k v) : LQ w0 w' (fun _ => False) N S X O I ⟨0, putL txS k⟩ (newIn 0) [] := by
  have h0 := hn.bel.size
  have hlo : ∀ b, OwnX X O I v (.slice none 0 0) b → w.heap.size ≤ b := by
    rintro b (rfl | rfl | e | rfl | e)
    · exact h.lo.1
    · exact h.lo.2.1
    · exact (h.bo b e).1
    · exact h.lo.2.2
    · cases e
  exact ⟨F, v, .slice none 0 0, hn.keep h.only (fun _ x => x.elim) (fun _ _ x => x), h.x, h.o, h.i, ⟨by simp [itsC], .inl ⟨rfl, rfl⟩⟩, h.xo, h.xi, h.oi, fun b e => (h.bo b e).2, fun b e => (by cases e), fun b hb => Nat.le_trans h0 (hlo b hb), fun b hb hx => by have := hn.bd b hb; have := hlo b hx; omega, fun b hb => hb.elim⟩
def BegPost (K : Nat) (w : World) (e : Ending) (w' : World) : Prop := ∃ X O I v, e = .returned (.tuple #[.pointer (some ⟨X, 0, none⟩), .bool true]) ∧ Bg w w' X O I K v
set_option maxRecDepth 100000 in
set_option maxHeartbeats 8000000 in
theorem begin_any (K : Nat) (hK : K ≤ 40) (w : World) : Calls Tryd.prog 40 #[.int .i64 (K : Int)] w (BegPost K w) := by
  go_enter Tryd.func40, Tryd.ntmps40
  go_wp2_with fail
  refine (newOutbox_ok 0 (by omega) w).mono ?_
  rintro e w1 ⟨rfl, ho1, hb1⟩
  have HO1 := Lib.hid ho1
  have HB1 := Lib.hid hb1
  clear ho1 hb1
  obtain ⟨O, HO⟩ : ∃ O, Hid (w.heap.size = O) := ⟨_, Lib.hid rfl⟩
  rw [HO.out] at HO1 ⊢
  go_wp2_with fail
  refine (newInbox_ok 0 (by omega) w1).mono ?_
  rintro e w2 ⟨rfl, hi2, hb2⟩
  have HI2 := Lib.hid hi2
  have HB2 := Lib.hid hb2
  clear hi2 hb2
  obtain ⟨I, HI⟩ : ∃ I, Hid (w1.heap.size = I) := ⟨_, Lib.hid rfl⟩
  rw [HI.out] at HI2 ⊢
  go_upto_region 4 with fail
  obtain ⟨X, HX⟩ : ∃ X, Hid (w2.heap.size = X) := ⟨_, Lib.hid rfl⟩
  obtain ⟨w3, HW3⟩ : ∃ w3, Hid (w3 = w2.alloc (.cells #[.pointer (some ⟨O, 0, none⟩), .pointer (some ⟨I, 0, none⟩), .slice none 0 0, .bool true] 76)) := ⟨_, Lib.hid rfl⟩
  rw [← HW3.out, HX.out]
  have HBG : Hid (Bg w w3 X O I 0 (.slice none 0 0)) := Lib.hid (by
    have h1 : Only Nobody w w1 := Only.of_below HB1.out Nobody
    have h2 : Only Nobody w1 w2 := Only.of_below HB2.out Nobody
    have h3 : Only Nobody w2 w3 := by rw [HW3.out]; exact (Only.refl _ _).alloc _
    have l1 := HO1.out.lt O (.inl rfl)
    have l2 := Blk.lt HI2.out
    have hOI : O < I := by rw [← HI.out]; exact l1
    have hIX : I < X := by rw [← HX.out]; exact l2
    refine ⟨by rw [HW3.out, ← HX.out]; exact Blk.new _ _ _, (HO1.out.same h2).same h3, h3.blk HI2.out (fun x => x), by omega, by omega, by omega, ⟨by rw [HO.out]; omega, by rw [HO.out]; omega, by rw [HO.out]; omega⟩, fun b e => (by cases e), (h1.trans h2).trans h3⟩)
  clear HW3
  go_wp2_with fail
  go_loopw [5, 9] (fun ev kv wx => ∃ (j : Nat) (v : Value), ev = .int .i64 0 ∧ kv = .int .i64 ((j : Int) + 1) ∧ j ≤ K ∧ Hid (Bg w wx X O I j v)) (fun _ kv _ => K + 1 - (intOf kv).toNat)
  case atStart => exact ⟨0, _, rfl, rfl, Nat.zero_le _, HBG⟩
  case round =>
    obtain ⟨j, v, rfl, rfl, hj, HBj⟩ := hrel
    have hj0 : (0 : Int) ≤ (j : Int) := by omega
    by_cases hjK : j < K
    · have hjI : ((j : Int) + 1) ≤ (K : Int) := by omega
      obtain ⟨t, HT⟩ : ∃ t, Hid (txS (j + 1) = t) := ⟨_, Lib.hid rfl⟩
      have HTX : Hid (∀ w', Calls Tryd.prog 17 #[.int .i64 ((j : Int) + 1)] w' fun e w'' => e = .returned (.string t) ∧ Only Nobody w' w'') := Lib.hid fun w' => by
        rw [← HT.out]
        have h := text_nat (j + 1) (by omega) w'
        rwa [show (((j + 1 : Nat) : Int)) = (j : Int) + 1 by omega] at h
      have HPU : Hid (∀ w', Only Nobody wr w' → Calls Tryd.prog 24 #[.pointer (some ⟨O, 0, none⟩), .agg #[.int .i64 ((j : Int) + 1), .string t]] w' fun e w'' => e = .returned (.int .i64 0) ∧ ∃ v', Bg w w'' X O I (j + 1) v') := Lib.hid fun w' ho => by
        have hb := HBj.out.same ho
        have h1 := put_ox O ⟨0, putL txS j⟩ v (itm txS (j + 1)) w' hb.o (by show 0 ≤ _; omega) (by rw [putL_len]; omega)
        rw [put_next (by omega), show (itm txS (j + 1)).n = (j : Int) + 1 by show (((j + 1 : Nat) : Int)) = _; omega] at h1
        rw [← HT.out]
        exact h1.mono fun e w'' ⟨h2, v', h3, h4, h5⟩ => ⟨h2, v', hb.put h3 h4 h5⟩
      go_wp2_with fail
      refine (HTX.out _).mono ?_
      rintro e w4 ⟨rfl, ho4⟩
      have HO4 := Lib.hid ho4
      clear ho4
      go_wp2_with fail
      refine (HPU.out _ (by repeat (first | with_reducible exact HO4.out | with_reducible exact Only.refl _ _ | with_reducible refine Only.drew ?_ | with_reducible refine Only.alloc ?_ _))).mono ?_
      rintro e w5 ⟨rfl, v', hb5⟩
      have HB5 := Lib.hid hb5
      clear hb5
      go_wp2_with fail
      go_roundw
      case rel => first | exact ⟨j + 1, v', rfl, by go_num, by omega, HB5⟩ | ((repeat apply Exists.intro); exact ⟨⟨j + 1, v', rfl, by go_num, by omega, HB5⟩, rfl⟩)
      case measure => simp [intOf]; omega
    · obtain rfl : j = K := by omega
      have hjI : ¬ ((j : Int) + 1) ≤ (j : Int) := by omega
      go_wp2_with fail
      go_ret2
      exact ⟨X, O, I, v, rfl, HBj.out⟩
set_option maxRecDepth 100000 in
set_option maxHeartbeats 8000000 in
theorem right_any (K : Nat) (hK : K ≤ 40) {w0 w : World} {Z : Nat → Prop} {N X O I : Nat} {S : NetS} {OS : OutS} {IS : InS} {G : List It} (h : LQ w0 w Z N S X O I OS IS G) (hG : G.length ≤ K) (hg : ∀ i x, G[i]? = some x → x = itm txS (i + 1)) (all : Bool) (hall : all = true → G.length = K) :
    Calls Tryd.prog 42 #[.pointer (some ⟨X, 0, none⟩), .int .i64 (K : Int), .bool all] w fun e w' => e = .returned (.bool true) ∧ Only Nobody w w' := by
  obtain ⟨F, vO, vG, hL⟩ := h
  obtain ⟨A, c, hv⟩ := own_form hL.g
  obtain ⟨m, HM⟩ : ∃ m, Hid (G.length = m) := ⟨_, Lib.hid rfl⟩
  rw [HM.out] at hv hG hall
  have HROW : Hid (w.ownsRow w0.heap.size 36 2 (.slice A m c) m (itsC G)) := Lib.hid (by have h := hL.g; rw [HM.out, hv] at h; exact h)
  have HX2 : Hid (∀ w', Only Nobody w w' → w'.cell? ⟨X, 2, none⟩ = some (.slice A m c)) := Lib.hid fun w' ho => by
    have := (ho.blk hL.x (fun x => x)).cell 2
    rw [hv] at this
    exact this
  have x3 : w.cell? ⟨X, 3, none⟩ = some (.bool true) := hL.x.cell 3
  have x2 : w.cell? ⟨X, 2, none⟩ = some (.slice A m c) := HX2.out w (Only.refl _ _)
  have HG := Lib.hid hg
  have hmK : ¬ (K : Int) < (m : Int) := by omega
  have hmA : all = true → ¬ (m : Int) < (K : Int) := fun e => by have := hall e; omega
  clear hL hv hall hG hg
  go_enter Tryd.func42, Tryd.ntmps42
  go_upto_region 1 with fail
  go_cut [33] (fun a wx => a = .bool false ∧ wx = w)
  case first =>
    cases all with
    | false =>
      clear hmA
      go_wp2_with fail
      go_meet
      exact ⟨rfl, rfl⟩
    | true =>
      have hmB := hmA rfl
      clear hmA
      go_wp2_with fail
      go_meet
      exact ⟨rfl, rfl⟩
  case rest =>
  obtain ⟨rfl, rfl⟩ := hcut
  obtain ⟨w1, HW1⟩ : ∃ w1, Hid (w1 = wc) := ⟨_, Lib.hid rfl⟩
  clear hmA x3
  go_wp2_with fail
  clear x2
  go_loopw [7] (fun kv wx => ∃ j : Nat, kv = .int .i64 (j : Int) ∧ j ≤ m ∧ Hid (Only Nobody w1 wx)) (fun kv _ => m - (intOf kv).toNat)
  case atStart => exact ⟨0, rfl, Nat.zero_le _, Lib.hid (by rw [HW1.out]; exact Only.refl _ _)⟩
  case round =>
    obtain ⟨j, rfl, hj, HON⟩ := hrel
    rw [HW1.out] at HON
    have hj0 : (0 : Int) ≤ (j : Int) := by omega
    have x2 := HX2.out wr HON.out
    by_cases hjm : j < m
    · have hjI : (j : Int) < (m : Int) := by omega
      obtain ⟨x, hx⟩ : ∃ x, G[j]? = some x := ⟨_, List.getElem?_eq_getElem (by rw [HM.out]; exact hjm)⟩
      obtain ⟨g, hA, hbg, hgl, hqc, hcells⟩ := it_at HM.out (HON.out.row HROW.out (fun _ _ x => x)) (by omega)
      subst hA
      obtain ⟨a0, a1⟩ := hcells j x hx
      have hxe := HG.out j x hx
      obtain ⟨t, HT⟩ : ∃ t, Hid (txS (j + 1) = t) := ⟨_, Lib.hid rfl⟩
      have hn : x.n = (j : Int) + 1 := by rw [hxe]; show (((j + 1 : Nat) : Int)) = _; omega
      have ht : x.t = t := by rw [hxe, ← HT.out]; rfl
      rw [hn] at a0
      rw [ht] at a1
      have HTX : Hid (∀ w', Calls Tryd.prog 17 #[.int .i64 ((j : Int) + 1)] w' fun e w'' => e = .returned (.string t) ∧ Only Nobody w' w'') := Lib.hid fun w' => by
        rw [← HT.out]
        have h := text_nat (j + 1) (by omega) w'
        rwa [show (((j + 1 : Nat) : Int)) = (j : Int) + 1 by omega] at h
      have HAC : Hid (∀ w', Only Nobody wr w' → w'.cell? ⟨X, 2, none⟩ = some (.slice (some ⟨g, 0, none⟩) m c) ∧ w'.cell? ⟨g, j * 2, none⟩ = some (.int .i64 ((j : Int) + 1)) ∧ w'.cell? ⟨g, j * 2 + 1, none⟩ = some (.string t)) := Lib.hid fun w' ho => ⟨HX2.out w' (HON.out.trans ho), (ho.cell (p := ⟨g, _, none⟩) hgl (fun x => x)).trans a0, (ho.cell (p := ⟨g, _, none⟩) hgl (fun x => x)).trans a1⟩
      have hw1 : IntKind.i64.wrap ((j : Int) + 1) = (j : Int) + 1 := by simp [IntKind.wrap, IntKind.signed, IntKind.bits]; omega
      have hne : (((j : Int) + 1) != ((j : Int) + 1)) = false := by simp
      have htt : (t.toList == t.toList) = true := by simp
      clear hx hcells hxe hn ht
      have HOX := Lib.hid (Only.refl Nobody wr)
      go_upto_region 6 with fail
      go_cut [67] (fun a wx => a = .bool false ∧ Hid (Only Nobody wr wx))
      case first =>
        go_region_held3 (fun w' => w'.cell? ⟨X, 2, none⟩ = some (.slice (some ⟨g, 0, none⟩) m c) ∧ w'.cell? ⟨g, j * 2, none⟩ = some (.int .i64 ((j : Int) + 1)) ∧ w'.cell? ⟨g, j * 2 + 1, none⟩ = some (.string t)) (exact HAC.out _ (by repeat (first | with_reducible exact HOX.out | with_reducible exact Only.refl _ _ | with_reducible refine Only.drew ?_ | with_reducible refine Only.alloc ?_ _))) (first
          | (go_at_call 17; refine (HTX.out _).mono ?_; rintro e w4 ⟨rfl, ho4⟩; have HOX : Hid (Only Nobody wr w4) := Lib.hid (Only.trans (by repeat (first | with_reducible exact HOX.out | with_reducible exact Only.refl _ _ | with_reducible refine Only.drew ?_ | with_reducible refine Only.alloc ?_ _)) ho4); clear ho4))
        all_goals
          go_wp2_with fail
          go_meet
          exact ⟨rfl, HOX⟩
      case rest =>
      obtain ⟨rfl, HOC⟩ := hcut
      have HONc : Hid (Only Nobody w1 wc) := Lib.hid (by rw [HW1.out]; exact HON.out.trans HOC.out)
      clear a0 a1 x2
      go_wp2_with fail
      go_roundw
      case rel => first | exact ⟨j + 1, by go_num, by omega, HONc⟩ | ((repeat apply Exists.intro); exact ⟨⟨j + 1, by go_num, by omega, HONc⟩, rfl⟩)
      case measure => simp [intOf]; omega
    · obtain rfl : j = m := by omega
      go_wp2_with fail
      go_ret
      exact ⟨rfl, HON.out⟩
end Go.Proofs.YthmndclmecnpmaaDoor
