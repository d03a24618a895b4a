/- Path: the law PathGets. -/
import Derived.Test.YtdccckoelnnnoaaGreatDoorPaS
import Derived.Test.YtdccckoelnnnoaaGreatDoorKnA
import Derived.Test.YtdccckoelnnnoaaGreatDoorVaS
import Derived.Deep.RegionHeld3
import Derived.Test.YtdccckoelnnnoaaGreatDoorFiU
namespace Go.Proofs.YtdccckoelnnnoaaGreatDoor

theorem bs_self (s : ByteArray) : bs s.data.toList = s := str_ext (bs_data _)
theorem nameB_list (s : ByteArray) : nameB s = nameL s.data.toList := by rw [← nameB_bs, bs_self]
theorem ptT_dot {p : Pt} (h : p.kind = 1) : (ptT p).data.toList = 46 :: p.name.data.toList := by unfold ptT; rw [if_pos h]; simp
theorem ptT_case {p : Pt} (h : p.kind = 4) : (ptT p).data.toList = 63 :: p.name.data.toList := by
  unfold ptT; rw [if_neg (by omega), if_neg (by omega), if_neg (by omega)]; simp
theorem ptT_all {p : Pt} (h : p.kind = 3) : (ptT p).data.toList = [91, 42, 93] := by
  unfold ptT; rw [if_neg (by omega), if_neg (by omega), if_pos h]
theorem ptT_index {p : Pt} (h : p.kind = 2) : (ptT p).data.toList = 91 :: (Lib.decDigits p.idx.toNat ++ [93]) := by
  unfold ptT; rw [if_neg (by omega), if_pos h]
  simp [decS]
/-- A text at whose head stands a stop, or nothing. -/
def headOk : List UInt8 → Prop
  | [] => True
  | c :: _ => isStop c = true
theorem upTo_app : ∀ {a r : List UInt8}, a.all okCh = true → headOk r → upTo (a ++ r) = a
  | [], [], _, _ => rfl
  | [], c :: r, _, h => by
    have h2 : isStop c = true := h
    unfold upTo
    rw [List.nil_append, List.takeWhile_cons, h2]
    rfl
  | c :: a, r, h, hr => by
    rw [List.all_cons, Bool.and_eq_true] at h
    have ih := upTo_app h.2 hr
    unfold upTo at *
    rw [List.cons_append, List.takeWhile_cons, ok_stop h.1]
    simp only [Bool.not_false, if_true]
    rw [ih]
theorem head_txt {p : Pt} (h : validB p = true) (r : List UInt8) : headOk ((ptT p).data.toList ++ r) := by
  obtain ⟨k, i, n⟩ := p
  by_cases h1 : k = 1
  · rw [ptT_dot h1]; exact (by decide : isStop 46 = true)
  by_cases h2 : k = 2
  · rw [ptT_index h2]; exact (by decide : isStop 91 = true)
  by_cases h3 : k = 3
  · rw [ptT_all h3]; exact (by decide : isStop 91 = true)
  by_cases h4 : k = 4
  · rw [ptT_case h4]; exact (by decide : isStop 63 = true)
  · simp [validB, h1, h2, h3, h4] at h
theorem nameL_all {l : List UInt8} (h : nameL l = true) : l.all okCh = true := by
  unfold nameL at h
  simp only [Bool.and_eq_true] at h
  exact h.2
theorem dec_93 (n : Nat) : (93 : UInt8) ∉ Lib.decDigits n := fun h => by
  have := dec_digit n 93 h
  have e : (93 : UInt8).toNat = 93 := rfl
  omega
theorem dec_42 (n : Nat) : ¬ Lib.decDigits n = [42] := fun h => by
  have := dec_digit n 42 (by rw [h]; simp)
  have e : (42 : UInt8).toNat = 42 := rfl
  omega
theorem step_txt {p : Pt} (hv : validB p = true) {r : List UInt8} (hr : headOk r) : stepP ((ptT p).data.toList ++ r) = some (p, r) := by
  obtain ⟨k, i, n⟩ := p
  by_cases h1 : k = 1
  · subst h1
    have hx : i = 0 ∧ nameB n = true := by simpa [validB] using hv
    obtain ⟨rfl, hn⟩ := hx
    rw [nameB_list] at hn
    rw [ptT_dot rfl]
    simp only [List.cons_append, stepP]
    rw [if_pos (by simp), upTo_app (nameL_all hn) hr, if_pos hn, bs_self]
    simp [kindOf]
  by_cases h4 : k = 4
  · subst h4
    have hx : i = 0 ∧ nameB n = true := by simpa [validB] using hv
    obtain ⟨rfl, hn⟩ := hx
    rw [nameB_list] at hn
    rw [ptT_case rfl]
    simp only [List.cons_append, stepP]
    rw [if_pos (by simp), upTo_app (nameL_all hn) hr, if_pos hn, bs_self]
    simp [kindOf]
  by_cases h2 : k = 2
  · subst h2
    have hx : (n.size = 0 ∧ 0 ≤ i) ∧ i < 256 := by simpa [validB] using hv
    obtain ⟨⟨hn, h0⟩, h256⟩ := hx
    obtain rfl := size_zero hn
    obtain ⟨j, rfl⟩ : ∃ j : Nat, i = (j : Int) := ⟨i.toNat, by omega⟩
    rw [ptT_index rfl]
    have e : (91 :: (Lib.decDigits (j : Int).toNat ++ [93])) ++ r = 91 :: (Lib.decDigits j ++ 93 :: r) := by simp
    have hst : stepP (91 :: (Lib.decDigits j ++ 93 :: r)) = brack (Lib.decDigits j ++ 93 :: r) := rfl
    rw [e, hst]
    unfold brack
    rw [cut_app (dec_93 j), if_pos rfl, if_neg (dec_42 j), numL_of (by omega)]
    rfl
  by_cases h3 : k = 3
  · subst h3
    have hx : n.size = 0 ∧ i = 0 := by simpa [validB] using hv
    obtain ⟨hn, rfl⟩ := hx
    obtain rfl := size_zero hn
    rw [ptT_all rfl]
    have hst : stepP ([91, 42, 93] ++ r) = brack ([42] ++ 93 :: r) := rfl
    rw [hst]
    unfold brack
    rw [cut_app (a := [42]) (by decide)]
    rfl
  · simp [validB, h1, h2, h3, h4] at hv
theorem txL_head : ∀ {l : List Pt}, l.all validB = true → headOk (txL l)
  | [], _ => trivial
  | p :: l, h => by
    rw [List.all_cons, Bool.and_eq_true] at h
    have e : txL (p :: l) = (ptT p).data.toList ++ txL l := by simp [txL]
    rw [e]; exact head_txt h.1 _
theorem parse_txt : ∀ (l : List Pt) (f : Nat), l.all validB = true → (txL l).length ≤ f → parseW stepP f (txL l) = some l
  | [], f, _, _ => by cases f <;> rfl
  | p :: l, f, h, hf => by
    rw [List.all_cons, Bool.and_eq_true] at h
    have e : txL (p :: l) = (ptT p).data.toList ++ txL l := by simp [txL]
    have hs := step_txt h.1 (txL_head h.2)
    have hlt := stepP_lt hs
    rw [e] at hf ⊢
    cases hx : (ptT p).data.toList ++ txL l with
    | nil => rw [hx] at hlt; simp at hlt
    | cons c m =>
      rw [hx] at hs hlt hf
      cases f with
      | zero => simp at hf
      | succ f =>
        simp only [parseW, hs]
        rw [parse_txt l f h.2 (by simp at hf hlt; omega)]
        rfl
theorem txtB_cons {L : List Pt} (h : okL L = true) : 46 :: (txtB L).data.toList = txL L := by
  obtain ⟨h1, _, _, _, h5⟩ := okL_parts h
  have e : (txtB L).data.toList = (txL L).tail := by unfold txtB; rw [if_pos h]
  rw [e]
  cases L with
  | nil => simp at h1
  | cons p l =>
    have hk : p.kind = 1 := h5
    have e2 : txL (p :: l) = (ptT p).data.toList ++ txL l := by simp [txL]
    rw [e2, ptT_dot hk]
    rfl
/-- The text of a path is parsed to it. -/
theorem text_back {L : List Pt} (h : okL L = true) : parL (txtB L).data.toList = L ∧ parE (txtB L).data.toList = 0 := by
  obtain ⟨h1, h16, hall, h201, h5⟩ := okL_parts h
  have hc := txtB_cons h
  have hlen : (txtB L).size + 1 = (txL L).length := by rw [← hc, List.length_cons, size_len]
  have hpos : 0 < (txtB L).size := by
    cases L with
    | nil => simp at h1
    | cons p l =>
      have hk : p.kind = 1 := h5
      have e2 : txL (p :: l) = (ptT p).data.toList ++ txL l := by simp [txL]
      rw [e2, ptT_dot hk] at hlen
      have hv : validB p = true := List.all_eq_true.1 hall p (by simp)
      have hx : p.idx = 0 ∧ nameB p.name = true := by simpa [validB, hk] using hv
      have hn : 0 < p.name.size := by
        have := hx.2
        unfold nameB at this
        rcases Nat.eq_zero_or_pos p.name.size with h0 | h0
        · rw [dif_neg (by omega)] at this; simp at this
        · exact h0
      simp at hlen
      omega
  have hp : parsesL (txtB L).data.toList = some L := by
    unfold parsesL
    rw [hc]
    exact parse_txt L _ hall (by rw [size_len]; omega)
  have h3 : ¬ (txtB L).data.toList = [] := fun e => by rw [← size_len, e] at hpos; simp at hpos
  have h4 : ¬ 200 < (txtB L).data.toList.length := by rw [size_len]; omega
  unfold parL parE
  rw [if_neg h3, if_neg h4, if_neg h3, if_neg h4, hp]
  simp only []
  rw [if_neg (by omega), if_neg (by omega)]
  exact ⟨rfl, rfl⟩

/-! The other way. -/
theorem upTo_split (l : List UInt8) : upTo l ++ l.drop (upTo l).length = l := by
  have h := List.take_append_drop (upTo l).length l
  rw [upTo_take] at h
  exact h
theorem step_back {l r : List UInt8} {p : Pt} (h : stepP l = some (p, r)) : validB p = true ∧ l = (ptT p).data.toList ++ r := by
  cases l with
  | nil => cases h
  | cons c m =>
    simp only [stepP] at h
    by_cases hc : c = 46 ∨ c = 63
    · rw [if_pos hc] at h
      by_cases hn : nameL (upTo m) = true
      · rw [if_pos hn] at h
        injection h with h
        injection h with h1 h2
        subst h1 h2
        have hnb : nameB (bs (upTo m)) = true := by rw [nameB_bs]; exact hn
        rcases hc with rfl | rfl
        · refine ⟨by simp [validB, kindOf, hnb], ?_⟩
          rw [ptT_dot rfl, bs_data, List.cons_append, upTo_split]
        · refine ⟨by simp [validB, kindOf, hnb], ?_⟩
          rw [ptT_case rfl, bs_data, List.cons_append, upTo_split]
      · rw [if_neg hn] at h; cases h
    · rw [if_neg hc] at h
      by_cases h91 : c = 91
      · rw [if_pos h91] at h
        subst h91
        unfold brack at h
        by_cases hf : (Lib.cut m [93]).2.2 = true
        · have hm := cut_found hf
          rw [if_pos hf] at h
          by_cases h42 : (Lib.cut m [93]).1 = [42]
          · rw [if_pos h42] at h
            injection h with h
            injection h with h1 h2
            subst h1
            rw [h42, h2] at hm
            refine ⟨by decide, ?_⟩
            rw [ptT_all rfl, hm]
            rfl
          · rw [if_neg h42] at h
            cases hn : numL (Lib.cut m [93]).1 with
            | none => rw [hn] at h; cases h
            | some i =>
              rw [hn] at h
              obtain ⟨hi, hd⟩ := numL_some hn
              injection h with h
              injection h with h1 h2
              subst h1
              rw [← hd, h2] at hm
              refine ⟨?_, ?_⟩
              · have h0 : (0 : Int) ≤ (i : Int) := by omega
                have h1 : (i : Int) < 256 := by omega
                unfold validB
                rw [if_neg (by simp), if_pos rfl, decide_eq_true h0, decide_eq_true h1]
                rfl
              · rw [ptT_index rfl]
                conv => lhs; rw [hm]
                simp
        · rw [if_neg hf] at h; cases h
      · rw [if_neg h91] at h; cases h
theorem parse_back : ∀ (f : Nat) (l : List UInt8) (L : List Pt), parseW stepP f l = some L → L.all validB = true ∧ l = txL L
  | f, [], L, h => by
    have : L = [] := by cases f <;> (simp only [parseW] at h; injection h with h; exact h.symm)
    subst this
    exact ⟨rfl, rfl⟩
  | 0, _ :: _, _, h => by simp [parseW] at h
  | f + 1, c :: m, L, h => by
    simp only [parseW] at h
    cases hs : stepP (c :: m) with
    | none => rw [hs] at h; cases h
    | some x =>
      obtain ⟨p, r⟩ := x
      rw [hs] at h
      simp only [] at h
      cases hr : parseW stepP f r with
      | none => rw [hr] at h; cases h
      | some M =>
        rw [hr] at h
        injection h with h
        subst h
        obtain ⟨h1, h2⟩ := step_back hs
        obtain ⟨h3, h4⟩ := parse_back f r M hr
        refine ⟨by rw [List.all_cons, h1, h3]; rfl, ?_⟩
        rw [h2, h4]
        simp [txL]
/-- What is parsed without an error has its text. -/
theorem parse_text {s : ByteArray} (h : parE s.data.toList = 0) : okL (parL s.data.toList) = true ∧ txtB (parL s.data.toList) = s := by
  unfold parE at h
  by_cases h0 : s.data.toList = []
  · rw [if_pos h0] at h; cases h
  rw [if_neg h0] at h
  by_cases h2 : 200 < s.data.toList.length
  · rw [if_pos h2] at h; cases h
  rw [if_neg h2] at h
  cases hp : parsesL s.data.toList with
  | none => rw [hp] at h; cases h
  | some L =>
    rw [hp] at h
    simp only [] at h
    by_cases h16 : 16 < L.length
    · rw [if_pos h16] at h; cases h
    have hL : parL s.data.toList = L := by unfold parL; rw [if_neg h0, if_neg h2, hp]; simp only []; rw [if_neg h16]
    rw [hL]
    unfold parsesL at hp
    obtain ⟨hall, ht⟩ := parse_back _ _ _ hp
    have hne : 1 ≤ L.length := by
      cases L with
      | nil => simp [txL] at ht
      | cons p l => simp
    have hk : (L.headD ⟨0, 0, ⟨#[]⟩⟩).kind = 1 := by
      cases L with
      | nil => simp at hne
      | cons p l =>
        have hv : validB p = true := List.all_eq_true.1 hall p (by simp)
        have e2 : txL (p :: l) = (ptT p).data.toList ++ txL l := by simp [txL]
        rw [e2] at ht
        show p.kind = 1
        obtain ⟨k, i, n⟩ := p
        by_cases h1 : k = 1
        · exact h1
        by_cases h2 : k = 2
        · rw [ptT_index h2] at ht; injection ht with ht; exact absurd ht (by decide)
        by_cases h3 : k = 3
        · rw [ptT_all h3] at ht; injection ht with ht; exact absurd ht (by decide)
        by_cases h4 : k = 4
        · rw [ptT_case h4] at ht; injection ht with ht; exact absurd ht (by decide)
        · simp [validB, h1, h2, h3, h4] at hv
    have hl : (txL L).length = s.data.toList.length + 1 := by rw [← ht]; rfl
    have hok : okL L = true := by
      unfold okL
      rw [hall, hk, decide_eq_true hne, decide_eq_true (show L.length ≤ 16 by omega), decide_eq_true (show (txL L).length ≤ 201 by omega)]
      rfl
    refine ⟨hok, str_ext ?_⟩
    have := txtB_cons hok
    rw [← ht] at this
    injection this
end Go.Proofs.YtdccckoelnnnoaaGreatDoor

namespace Go.Proofs.YtdccckoelnnnoaaGreatDoor
open Go.RowKit
attribute [local go_sem ↓] Go.wp_at_zero Go.wp_at_succ

def OwnPts (q : Nat) (Z : List Pt) (w1 : World) (e : Ending) (w2 : World) : Prop := ∃ Y s, e = .returned (.slice Y q s) ∧ Pts w2 Y q Z ∧ Only Nobody w1 w2
theorem own_pts (X : Option Addr) (q r : Nat) (Z : List Pt) (w1 : World) (hq : q ≤ 1000) (hp : Pts w1 X q Z) : Calls Tryz.prog 7 #[.slice X q r] w1 (OwnPts q Z w1) := (own_any X q r Z hq w1 hp).mono (by
    rintro e w2 ⟨vo, rfl, hown, ho2⟩
    rw [hp.len] at hown
    obtain ⟨Y, s, rfl⟩ := own_form hown
    exact ⟨Y, s, rfl, Pts.of_own hown, ho2⟩)
theorem txtB_no {L : List Pt} (h : ¬ okL L = true) : txtB L = ⟨#[]⟩ := by unfold txtB; rw [if_neg h]
end Go.Proofs.YtdccckoelnnnoaaGreatDoor

namespace Go.Proofs.YtdccckoelnnnoaaGreatDoor
open Go.RowKit
attribute [local go_sem ↓] Go.wp_at_zero Go.wp_at_succ

def ABool (w : World) (e : Ending) (w' : World) : Prop := ∃ b : Bool, e = .returned (.bool b) ∧ Only Nobody w w'
set_option maxRecDepth 100000 in
set_option maxHeartbeats 4000000 in
theorem small_any (v : VC) (T : VT) (S : Nat → Prop) (n : Nat) (w : World) (hsz : T.size ≤ 140737488351232) (h : VAt w S n v T) : Calls Tryz.prog 5 #[.agg #[.int .i64 v.k, .int .i64 v.i, .int .i64 v.s, .string v.t, .slice v.la v.ln v.lc, .slice v.fa v.fn v.fc]] w (ABool w) := by
  have HV := Lib.hid h
  clear h
  go_enter Tryz.func5, Tryz.ntmps5
  go_wp2_with fail
  have HOA : Hid (Only Nobody w (w.alloc (.cells #[.int .i64 v.k, .int .i64 v.i, .int .i64 v.s, .string v.t, .slice v.la v.ln v.lc, .slice v.fa v.fn v.fc] 25))) := Lib.hid ((Only.refl _ _).alloc _)
  refine (depth_any n v T S _ (by omega) (HV.out.same HOA.out)).mono ?_
  rintro e w1 ⟨z, rfl, ho⟩
  have HB1 : Hid (Blk w1 w.heap.size 25 #[.int .i64 v.k, .int .i64 v.i, .int .i64 v.s, .string v.t, .slice v.la v.ln v.lc, .slice v.fa v.fn v.fc]) := Lib.hid (ho.blk (Blk.new w 25 #[.int .i64 v.k, .int .i64 v.i, .int .i64 v.s, .string v.t, .slice v.la v.ln v.lc, .slice v.fa v.fn v.fc]) (fun x => x))
  have HO1 := Lib.hid (HOA.out.trans ho)
  clear ho HOA
  by_cases hd : z ≤ 12
  · have b0 : w1.cell? ⟨w.heap.size, 0, none⟩ = some (.int .i64 v.k) := HB1.out.cell 0
    have b1 : w1.cell? ⟨w.heap.size, 1, none⟩ = some (.int .i64 v.i) := HB1.out.cell 1
    have b2 : w1.cell? ⟨w.heap.size, 2, none⟩ = some (.int .i64 v.s) := HB1.out.cell 2
    have b3 : w1.cell? ⟨w.heap.size, 3, none⟩ = some (.string v.t) := HB1.out.cell 3
    have b4 : w1.cell? ⟨w.heap.size, 4, none⟩ = some (.slice v.la v.ln v.lc) := HB1.out.cell 4
    have b5 : w1.cell? ⟨w.heap.size, 5, none⟩ = some (.slice v.fa v.fn v.fc) := HB1.out.cell 5
    go_wp2_with fail
    refine (size_any n v T S _ (by omega) (HV.out.same HO1.out)).mono ?_
    rintro e w2 ⟨z2, rfl, ho⟩
    have HO2 := Lib.hid (HO1.out.trans ho)
    clear ho b0 b1 b2 b3 b4 b5
    go_wp2_with fail
    go_ret
    exact ⟨_, rfl, HO2.out⟩
  · go_wp2_with fail
    go_ret
    exact ⟨_, rfl, HO1.out⟩
end Go.Proofs.YtdccckoelnnnoaaGreatDoor

namespace Go.Proofs.YtdccckoelnnnoaaGreatDoor
open Go.RowKit
attribute [local go_sem ↓] Go.wp_at_zero Go.wp_at_succ

def SameOk (n : Nat) : Prop := ∀ (a b : VC) (T : VT) (S S' : Nat → Prop) (w : World), T.size ≤ 140737488351232 → VAt w S n a T → VAt w S' n b T → Calls Tryz.prog 10 #[.agg #[.int .i64 a.k, .int .i64 a.i, .int .i64 a.s, .string a.t, .slice a.la a.ln a.lc, .slice a.fa a.fn a.fc], .agg #[.int .i64 b.k, .int .i64 b.i, .int .i64 b.s, .string b.t, .slice b.la b.ln b.lc, .slice b.fa b.fn b.fc]] w fun e w' => e = .returned (.bool true) ∧ Only Nobody w w'
set_option maxRecDepth 100000 in
set_option maxHeartbeats 16000000 in
theorem same_step (n : Nat) (ih : SameOk n) : SameOk (n + 1) := by
  intro a b T S S' w hsz h h'
  obtain ⟨vk, vi, vs, vt, la, ln, lc, fa, fn, fc⟩ := a
  obtain ⟨vk', vi', vs', vt', lb, ln', mc, fb, fn', gc⟩ := b
  obtain ⟨⟨hk, hi, hs, ht, _, _⟩, ⟨V, hV, hA⟩, ⟨F, hF, hB⟩⟩ := h
  obtain ⟨⟨hk', hi', hs', ht', _, _⟩, ⟨V', hV', hA'⟩, ⟨F', hF', hB'⟩⟩ := h'
  dsimp only at hV hF hV' hF' hk hi hs ht hk' hi' hs' ht' ⊢
  obtain rfl : vk = vk' := by rw [hk, hk']
  obtain rfl : vi = vi' := by rw [hi, hi']
  obtain rfl : vs = vs' := by rw [hs, hs']
  obtain rfl : vt = vt' := by rw [ht, ht']
  obtain rfl : ln = ln' := by rw [← hV.len, hA.1, ← hV'.len, hA'.1]
  obtain rfl : fn = fn' := by rw [← hF.len, hB.1, ← hF'.len, hB'.1]
  clear hk hi hs ht hk' hi' hs' ht'
  have HV := Lib.hid hV
  have HA := Lib.hid hA
  have HF := Lib.hid hF
  have HB := Lib.hid hB
  have HV2 := Lib.hid hV'
  have HA2 := Lib.hid hA'
  have HF2 := Lib.hid hF'
  have HB2 := Lib.hid hB'
  have HSZ := Lib.hid hsz
  have HIH := Lib.hid ih
  have HTL : Hid (T.l.length = ln) := Lib.hid (by rw [← hA.1, hV.len])
  have HTF : Hid (T.f.length = fn) := Lib.hid (by rw [← hB.1, hF.len])
  have hln : ln ≤ 1599289640355 := by rw [← HTL.out]; have := sizeL_len T.l; have := size_l T; omega
  have hfn : fn ≤ 1353245080300 := by rw [← HTF.out]; have := sizeF_len T.f; have := size_f T; omega
  obtain ⟨W0, HW0⟩ : ∃ W0, Hid (W0 = (w.alloc (.cells #[.int .i64 vk, .int .i64 vi, .int .i64 vs, .string vt, .slice la ln lc, .slice fa fn fc] 25)).alloc (.cells #[.int .i64 vk, .int .i64 vi, .int .i64 vs, .string vt, .slice lb ln mc, .slice fb fn gc] 25)) := ⟨_, Lib.hid rfl⟩
  have HBA : Hid (Blk W0 w.heap.size 25 #[.int .i64 vk, .int .i64 vi, .int .i64 vs, .string vt, .slice la ln lc, .slice fa fn fc]) := Lib.hid (by rw [HW0.out]; exact (Blk.new _ _ _).alloc _)
  have HBB : Hid (Blk W0 (w.heap.size + 1) 25 #[.int .i64 vk, .int .i64 vi, .int .i64 vs, .string vt, .slice lb ln mc, .slice fb fn gc]) := Lib.hid (by
    rw [HW0.out]
    have := Blk.new (w.alloc (.cells #[.int .i64 vk, .int .i64 vi, .int .i64 vs, .string vt, .slice la ln lc, .slice fa fn fc] 25)) 25 #[.int .i64 vk, .int .i64 vi, .int .i64 vs, .string vt, .slice lb ln mc, .slice fb fn gc]
    simpa using this)
  have HO0 : Hid (Only Nobody w W0) := Lib.hid (by rw [HW0.out]; exact ((Only.refl _ _).alloc _).alloc _)
  have htt : (vt.toList != vt.toList) = false := by simp
  have hkk : (vk != vk) = false := by simp
  have hii : (vi != vi) = false := by simp
  have hss : (vs != vs) = false := by simp
  clear hV hA hF hB hV' hA' hF' hB' hsz ih
  go_enter Tryz.func10, Tryz.ntmps10
  go_wp2_with fail
  rw [← HW0.out]
  go_loopw [5] (fun i wx => ∃ j : Nat, i = .int .i64 (j : Int) ∧ j ≤ ln ∧ Hid (Only Nobody W0 wx)) (fun i _ => ln - (intOf i).toNat)
  case atStart => exact ⟨0, rfl, Nat.zero_le _, Lib.hid (Only.refl _ _)⟩
  case round =>
    obtain ⟨j, rfl, hj, HON⟩ := hrel
    have hj0 : (0 : Int) ≤ (j : Int) := by omega
    have HBLA := Lib.hid (HON.out.blk HBA.out (fun x => x))
    have HBLB := Lib.hid (HON.out.blk HBB.out (fun x => x))
    have b4 : wr.cell? ⟨w.heap.size, 4, none⟩ = some (.slice la ln lc) := HBLA.out.cell 4
    have d4 : wr.cell? ⟨w.heap.size + 1, 4, none⟩ = some (.slice lb ln mc) := HBLB.out.cell 4
    by_cases hjn : j < ln
    · have hjI : (j : Int) < (ln : Int) := by omega
      obtain ⟨ad, rfl⟩ := HV.out.some_ (by omega)
      obtain ⟨bd, rfl⟩ := HV2.out.some_ (by omega)
      obtain ⟨o, ho⟩ := HV.out.get hjn
      obtain ⟨x, hx, hax⟩ := HA.out.get ho
      obtain ⟨o2, ho2, hax2⟩ := HA2.out.get' hx
      have HX := Lib.hid hx
      have HXS : Hid (x.size ≤ 140737488351232) := Lib.hid (by have := sizeL_mem hx; have := size_l T; have := HSZ.out; omega)
      have HAX : Hid (∀ w', Only Nobody wr w' → VAt w' S n o x) := Lib.hid fun w' h => hax.same ((HO0.out.trans HON.out).trans h)
      have HAX2 : Hid (∀ w', Only Nobody wr w' → VAt w' S' n o2 x) := Lib.hid fun w' h => hax2.same ((HO0.out.trans HON.out).trans h)
      have HHC : Hid (∀ w', Only Nobody wr w' → w'.cell? ⟨w.heap.size, 4, none⟩ = some (.slice (some ad) ln lc) ∧ w'.cell? ⟨w.heap.size + 1, 4, none⟩ = some (.slice (some bd) ln mc) ∧ w'.cell? (ad.add (j * 6)) = some (.int .i64 o.k) ∧ w'.cell? ⟨(ad.add (j * 6)).block, (ad.add (j * 6)).off + 1, none⟩ = some (.int .i64 o.i) ∧ w'.cell? ⟨(ad.add (j * 6)).block, (ad.add (j * 6)).off + 2, none⟩ = some (.int .i64 o.s) ∧ w'.cell? ⟨(ad.add (j * 6)).block, (ad.add (j * 6)).off + 3, none⟩ = some (.string o.t) ∧ w'.cell? ⟨(ad.add (j * 6)).block, (ad.add (j * 6)).off + 4, none⟩ = some (.slice o.la o.ln o.lc) ∧ w'.cell? ⟨(ad.add (j * 6)).block, (ad.add (j * 6)).off + 5, none⟩ = some (.slice o.fa o.fn o.fc) ∧ w'.cell? (bd.add (j * 6)) = some (.int .i64 o2.k) ∧ w'.cell? ⟨(bd.add (j * 6)).block, (bd.add (j * 6)).off + 1, none⟩ = some (.int .i64 o2.i) ∧ w'.cell? ⟨(bd.add (j * 6)).block, (bd.add (j * 6)).off + 2, none⟩ = some (.int .i64 o2.s) ∧ w'.cell? ⟨(bd.add (j * 6)).block, (bd.add (j * 6)).off + 3, none⟩ = some (.string o2.t) ∧ w'.cell? ⟨(bd.add (j * 6)).block, (bd.add (j * 6)).off + 4, none⟩ = some (.slice o2.la o2.ln o2.lc) ∧ w'.cell? ⟨(bd.add (j * 6)).block, (bd.add (j * 6)).off + 5, none⟩ = some (.slice o2.fa o2.fn o2.fc)) := Lib.hid fun w' h => by
        have h1 := (HV.out.same ((HO0.out.trans HON.out).trans h)).vat ho
        have h2 := (HV2.out.same ((HO0.out.trans HON.out).trans h)).vat ho2
        exact ⟨(h.blk HBLA.out (fun x => x)).cell 4, (h.blk HBLB.out (fun x => x)).cell 4, h1.c0, h1.c1, h1.c2, h1.c3, h1.c4, h1.c5, h2.c0, h2.c1, h2.c2, h2.c3, h2.c4, h2.c5⟩
      have hcc := HHC.out wr (Only.refl _ _)
      clear ho hx hax ho2 hax2
      go_upto_region 6 with fail
      go_region_held3 (fun w' => w'.cell? ⟨w.heap.size, 4, none⟩ = some (.slice (some ad) ln lc) ∧ w'.cell? ⟨w.heap.size + 1, 4, none⟩ = some (.slice (some bd) ln mc) ∧ w'.cell? (ad.add (j * 6)) = some (.int .i64 o.k) ∧ w'.cell? ⟨(ad.add (j * 6)).block, (ad.add (j * 6)).off + 1, none⟩ = some (.int .i64 o.i) ∧ w'.cell? ⟨(ad.add (j * 6)).block, (ad.add (j * 6)).off + 2, none⟩ = some (.int .i64 o.s) ∧ w'.cell? ⟨(ad.add (j * 6)).block, (ad.add (j * 6)).off + 3, none⟩ = some (.string o.t) ∧ w'.cell? ⟨(ad.add (j * 6)).block, (ad.add (j * 6)).off + 4, none⟩ = some (.slice o.la o.ln o.lc) ∧ w'.cell? ⟨(ad.add (j * 6)).block, (ad.add (j * 6)).off + 5, none⟩ = some (.slice o.fa o.fn o.fc) ∧ w'.cell? (bd.add (j * 6)) = some (.int .i64 o2.k) ∧ w'.cell? ⟨(bd.add (j * 6)).block, (bd.add (j * 6)).off + 1, none⟩ = some (.int .i64 o2.i) ∧ w'.cell? ⟨(bd.add (j * 6)).block, (bd.add (j * 6)).off + 2, none⟩ = some (.int .i64 o2.s) ∧ w'.cell? ⟨(bd.add (j * 6)).block, (bd.add (j * 6)).off + 3, none⟩ = some (.string o2.t) ∧ w'.cell? ⟨(bd.add (j * 6)).block, (bd.add (j * 6)).off + 4, none⟩ = some (.slice o2.la o2.ln o2.lc) ∧ w'.cell? ⟨(bd.add (j * 6)).block, (bd.add (j * 6)).off + 5, none⟩ = some (.slice o2.fa o2.fn o2.fc))
        (first | exact hcc | exact hcd | exact HHC.out _ (by repeat (first | exact Only.refl _ _ | refine Only.drew ?_ | refine Only.alloc ?_ _)))
        (first | (go_at_call 10; refine (HIH.out o o2 x S S' _ HXS.out (HAX.out _ (by repeat (first | exact Only.refl _ _ | refine Only.drew ?_ | refine Only.alloc ?_ _))) (HAX2.out _ (by repeat (first | exact Only.refl _ _ | refine Only.drew ?_ | refine Only.alloc ?_ _)))).mono ?_; rintro e w2 ⟨rfl, ho⟩; have HO2 : Hid (Only Nobody wr w2) := Lib.hid (Only.trans (by repeat (first | exact Only.refl _ _ | refine Only.drew ?_ | refine Only.alloc ?_ _)) ho); have hcd := HHC.out w2 HO2.out; clear ho))
      all_goals
        have HOn := Lib.hid (HON.out.trans HO2.out)
        go_wp2_with fail
        go_roundw
        case rel => first | exact ⟨j + 1, by go_num, by omega, HOn⟩ | ((repeat apply Exists.intro); exact ⟨⟨j + 1, by go_num, by omega, HOn⟩, rfl⟩)
        case measure => simp [intOf]; omega
    · obtain rfl : j = ln := by omega
      go_wp2_with fail
      obtain ⟨wl, rfl⟩ : ∃ wl : World, wl = wr := ⟨_, rfl⟩
      clear b4 d4
      go_loopw [6] (fun i wx => ∃ k : Nat, i = .int .i64 (k : Int) ∧ k ≤ fn ∧ Hid (Only Nobody W0 wx)) (fun i _ => fn - (intOf i).toNat)
      case atStart => exact ⟨0, rfl, Nat.zero_le _, HON⟩
      case round =>
        clear HON HBLA HBLB
        obtain ⟨k, rfl, hk, HON⟩ := hrel
        have hk0 : (0 : Int) ≤ (k : Int) := by omega
        have HBLA := Lib.hid (HON.out.blk HBA.out (fun x => x))
        have HBLB := Lib.hid (HON.out.blk HBB.out (fun x => x))
        have b5 : wr.cell? ⟨w.heap.size, 5, none⟩ = some (.slice fa fn fc) := HBLA.out.cell 5
        have d5 : wr.cell? ⟨w.heap.size + 1, 5, none⟩ = some (.slice fb fn gc) := HBLB.out.cell 5
        by_cases hkn : k < fn
        · have hkI : (k : Int) < (fn : Int) := by omega
          obtain ⟨ad, rfl⟩ := HF.out.some_ (by omega)
          obtain ⟨bd, rfl⟩ := HF2.out.some_ (by omega)
          obtain ⟨o, ho⟩ := HF.out.get hkn
          obtain ⟨x, hx, hax⟩ := HB.out.get ho
          obtain ⟨o2, ho2, hax2⟩ := HB2.out.get' hx
          have HXS : Hid (x.2.size ≤ 140737488351232) := Lib.hid (by have := sizeF_mem hx; have := size_f T; have := HSZ.out; omega)
          have HAX : Hid (∀ w', Only Nobody wr w' → VAt w' S n o.v x.2) := Lib.hid fun w' h => hax.2.same ((HO0.out.trans HON.out).trans h)
          have HAX2 : Hid (∀ w', Only Nobody wr w' → VAt w' S' n o2.v x.2) := Lib.hid fun w' h => hax2.2.same ((HO0.out.trans HON.out).trans h)
          have hnm : o.n = o2.n := by rw [hax.1, hax2.1]
          obtain ⟨on, ov⟩ := o
          obtain ⟨on2, ov2⟩ := o2
          dsimp only at hnm HAX HAX2
          subst hnm
          have hnn : (on.toList != on.toList) = false := by simp
          have HHC : Hid (∀ w', Only Nobody wr w' → w'.cell? ⟨w.heap.size, 5, none⟩ = some (.slice (some ad) fn fc) ∧ w'.cell? ⟨w.heap.size + 1, 5, none⟩ = some (.slice (some bd) fn gc) ∧ w'.cell? (ad.add (k * 7)) = some (.string on) ∧ w'.cell? ⟨(ad.add (k * 7)).block, (ad.add (k * 7)).off + 1, none⟩ = some (.int .i64 ov.k) ∧ w'.cell? ⟨(ad.add (k * 7)).block, (ad.add (k * 7)).off + 2, none⟩ = some (.int .i64 ov.i) ∧ w'.cell? ⟨(ad.add (k * 7)).block, (ad.add (k * 7)).off + 3, none⟩ = some (.int .i64 ov.s) ∧ w'.cell? ⟨(ad.add (k * 7)).block, (ad.add (k * 7)).off + 4, none⟩ = some (.string ov.t) ∧ w'.cell? ⟨(ad.add (k * 7)).block, (ad.add (k * 7)).off + 5, none⟩ = some (.slice ov.la ov.ln ov.lc) ∧ w'.cell? ⟨(ad.add (k * 7)).block, (ad.add (k * 7)).off + 6, none⟩ = some (.slice ov.fa ov.fn ov.fc) ∧ w'.cell? (bd.add (k * 7)) = some (.string on) ∧ w'.cell? ⟨(bd.add (k * 7)).block, (bd.add (k * 7)).off + 1, none⟩ = some (.int .i64 ov2.k) ∧ w'.cell? ⟨(bd.add (k * 7)).block, (bd.add (k * 7)).off + 2, none⟩ = some (.int .i64 ov2.i) ∧ w'.cell? ⟨(bd.add (k * 7)).block, (bd.add (k * 7)).off + 3, none⟩ = some (.int .i64 ov2.s) ∧ w'.cell? ⟨(bd.add (k * 7)).block, (bd.add (k * 7)).off + 4, none⟩ = some (.string ov2.t) ∧ w'.cell? ⟨(bd.add (k * 7)).block, (bd.add (k * 7)).off + 5, none⟩ = some (.slice ov2.la ov2.ln ov2.lc) ∧ w'.cell? ⟨(bd.add (k * 7)).block, (bd.add (k * 7)).off + 6, none⟩ = some (.slice ov2.fa ov2.fn ov2.fc)) := Lib.hid fun w' h => by
            have h1 := (HF.out.same ((HO0.out.trans HON.out).trans h)).fat ho
            have h2 := (HF2.out.same ((HO0.out.trans HON.out).trans h)).fat ho2
            exact ⟨(h.blk HBLA.out (fun x => x)).cell 5, (h.blk HBLB.out (fun x => x)).cell 5, h1.c0, h1.c1, h1.c2, h1.c3, h1.c4, h1.c5, h1.c6, h2.c0, h2.c1, h2.c2, h2.c3, h2.c4, h2.c5, h2.c6⟩
          have hcc := HHC.out wr (Only.refl _ _)
          clear ho hx hax ho2 hax2
          go_upto_region 11 with fail
          go_region_held3 (fun w' => w'.cell? ⟨w.heap.size, 5, none⟩ = some (.slice (some ad) fn fc) ∧ w'.cell? ⟨w.heap.size + 1, 5, none⟩ = some (.slice (some bd) fn gc) ∧ w'.cell? (ad.add (k * 7)) = some (.string on) ∧ w'.cell? ⟨(ad.add (k * 7)).block, (ad.add (k * 7)).off + 1, none⟩ = some (.int .i64 ov.k) ∧ w'.cell? ⟨(ad.add (k * 7)).block, (ad.add (k * 7)).off + 2, none⟩ = some (.int .i64 ov.i) ∧ w'.cell? ⟨(ad.add (k * 7)).block, (ad.add (k * 7)).off + 3, none⟩ = some (.int .i64 ov.s) ∧ w'.cell? ⟨(ad.add (k * 7)).block, (ad.add (k * 7)).off + 4, none⟩ = some (.string ov.t) ∧ w'.cell? ⟨(ad.add (k * 7)).block, (ad.add (k * 7)).off + 5, none⟩ = some (.slice ov.la ov.ln ov.lc) ∧ w'.cell? ⟨(ad.add (k * 7)).block, (ad.add (k * 7)).off + 6, none⟩ = some (.slice ov.fa ov.fn ov.fc) ∧ w'.cell? (bd.add (k * 7)) = some (.string on) ∧ w'.cell? ⟨(bd.add (k * 7)).block, (bd.add (k * 7)).off + 1, none⟩ = some (.int .i64 ov2.k) ∧ w'.cell? ⟨(bd.add (k * 7)).block, (bd.add (k * 7)).off + 2, none⟩ = some (.int .i64 ov2.i) ∧ w'.cell? ⟨(bd.add (k * 7)).block, (bd.add (k * 7)).off + 3, none⟩ = some (.int .i64 ov2.s) ∧ w'.cell? ⟨(bd.add (k * 7)).block, (bd.add (k * 7)).off + 4, none⟩ = some (.string ov2.t) ∧ w'.cell? ⟨(bd.add (k * 7)).block, (bd.add (k * 7)).off + 5, none⟩ = some (.slice ov2.la ov2.ln ov2.lc) ∧ w'.cell? ⟨(bd.add (k * 7)).block, (bd.add (k * 7)).off + 6, none⟩ = some (.slice ov2.fa ov2.fn ov2.fc))
            (first | exact hcc | exact hcd | exact HHC.out _ (by repeat (first | exact Only.refl _ _ | refine Only.drew ?_ | refine Only.alloc ?_ _)))
            (first | (go_at_call 10; refine (HIH.out ov ov2 x.2 S S' _ HXS.out (HAX.out _ (by repeat (first | exact Only.refl _ _ | refine Only.drew ?_ | refine Only.alloc ?_ _))) (HAX2.out _ (by repeat (first | exact Only.refl _ _ | refine Only.drew ?_ | refine Only.alloc ?_ _)))).mono ?_; rintro e w2 ⟨rfl, ho⟩; have HO2 : Hid (Only Nobody wr w2) := Lib.hid (Only.trans (by repeat (first | exact Only.refl _ _ | refine Only.drew ?_ | refine Only.alloc ?_ _)) ho); have hcd := HHC.out w2 HO2.out; clear ho))
          all_goals
            have HOn := Lib.hid (HON.out.trans HO2.out)
            go_wp2_with fail
            go_roundw
            case rel => first | exact ⟨k + 1, by go_num, by omega, HOn⟩ | ((repeat apply Exists.intro); exact ⟨⟨k + 1, by go_num, by omega, HOn⟩, rfl⟩)
            case measure => simp [intOf]; omega
        · obtain rfl : k = fn := by omega
          go_wp2_with fail
          go_ret
          exact ⟨rfl, HO0.out.trans HON.out⟩
theorem same_eq : ∀ n, SameOk n
  | 0 => fun _ _ _ _ _ _ _ h => h.elim
  | n + 1 => same_step n (same_eq n)
end Go.Proofs.YtdccckoelnnnoaaGreatDoor


namespace Go.Proofs.YtdccckoelnnnoaaGreatDoor
open Go.RowKit
attribute [local go_sem ↓] Go.wp_at_zero Go.wp_at_succ

theorem findR_err {T : VT} {L : List Pt} (h : findE T L ≠ 0) : findR T L = [] := by
  unfold findE at h
  unfold findR
  split
  · rename_i hc
    rw [if_pos hc] at h
    cases hf : findT [T] L with
    | none => rfl
    | some R =>
      rw [hf] at h
      simp only [] at h
      split at h
      · rename_i hh; exact hh.1
      · exact absurd rfl h
  · rfl
theorem find_ok {T : VT} {L : List Pt} (h : findE T L = 0) : okL L = true ∧ findT [T] L = some (findR T L) := by
  by_cases hok : okL L = true
  · refine ⟨hok, ?_⟩
    unfold findE at h
    unfold findR
    rw [chkE_ok hok] at h ⊢
    rw [if_pos rfl] at h ⊢
    cases hf : findT [T] L with
    | none => rw [hf] at h; simp at h
    | some R => rfl
  · unfold findE at h; rw [chkE_no hok] at h; simp at h
end Go.Proofs.YtdccckoelnnnoaaGreatDoor
