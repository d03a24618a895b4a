/- path.insert: a field put among a record's fields, at some place. -/
import Derived.Test.YtdccckoelnnnoaaDoorInA
import Derived.Test.YtdccckoelnnnoaaDoorVaA
import Derived.Test.YtdccckoelnnnoaaDoorFiG
import Derived.Lib.SmallJoins
namespace Go.Proofs.YtdccckoelnnnoaaDoor
open Go.RowKit
attribute [local go_sem ↓] Go.wp_at_zero Go.wp_at_succ

set_option maxRecDepth 100000 in
set_option maxHeartbeats 4000000 in
theorem insert1_any (fn : ByteArray) (v : VC) (b : Nat) (m : ByteArray) (w : World) (hb : w.cell? ⟨b, 0, none⟩ = some (.string m)) (hlt : b < w.heap.size) : Calls Tryd.prog 50 #[.agg #[.string fn, .int .i64 v.k, .int .i64 v.i, .int .i64 v.s, .string v.t, .slice v.la v.ln v.lc, .slice v.fa v.fn v.fc], .pointer (some ⟨b, 0, none⟩)] w fun e w' => (∃ r, e = .returned (.bool r)) ∧ Only Nobody w w' := by
  go_enter Tryd.func50, Tryd.ntmps50
  go_wp2_with fail
  go_ret
  exact ⟨⟨_, rfl⟩, (Only.refl _ _).alloc _⟩
def GiPost (n : Nat) (w : World) (e : Ending) (w' : World) : Prop := (∃ z : Int, e = .returned (.int .i64 z) ∧ -1 ≤ z ∧ z < (n : Int)) ∧ Only Nobody w w'
set_option maxRecDepth 100000 in
set_option maxHeartbeats 4000000 in
theorem indexG_any (A : Option Addr) (n c : Nat) (F : List FC) (S : Nat → Prop) (b : Nat) (m : ByteArray) (hn : n ≤ 1353245080300) (w : World) (h : RowA FC.vals 7 w S A n F) (hb : w.cell? ⟨b, 0, none⟩ = some (.string m)) (hlt : b < w.heap.size) : Calls Tryd.prog 49 #[.slice A n c, .func (.func 50) #[] #[.pointer (some ⟨b, 0, none⟩)]] w (GiPost n w) := by
  have HP := Lib.hid h
  have HBC := Lib.hid hb
  clear h hb
  go_enter Tryd.func49, Tryd.ntmps49
  go_wp2_with fail
  go_loopw [8] (fun i wx => ∃ k : Nat, i = .int .i64 (k : Int) ∧ k ≤ n ∧ Hid (Only Nobody w wx)) (fun i _ => n - (intOf i).toNat)
  case atStart => exact ⟨0, rfl, Nat.zero_le _, Lib.hid (Only.refl _ _)⟩
  case round =>
    obtain ⟨k, rfl, hk, HON⟩ := hrel
    by_cases hkm : k < n
    · have hkI : (k : Int) < (n : Int) := by omega
      have hk0 : (0 : Int) ≤ (k : Int) := by omega
      obtain ⟨ad, rfl⟩ := HP.out.some_ (by omega)
      obtain ⟨o, hx⟩ := HP.out.get hkm
      obtain ⟨a0, a1, a2, a3, a4, a5, a6⟩ := (HP.out.same HON.out).fat hx
      have HBK : Hid (wr.cell? ⟨b, 0, none⟩ = some (.string m)) := Lib.hid ((HON.out.cell (p := ⟨b, 0, none⟩) hlt (fun x => x)).trans HBC.out)
      have hltr : b < wr.heap.size := Nat.lt_of_lt_of_le hlt HON.out.size
      clear hx
      go_wp2_with fail
      refine (insert1_any o.n o.v b m _ HBK.out hltr).mono ?_
      rintro e w1 ⟨⟨r, rfl⟩, ho⟩
      have HO := Lib.hid (HON.out.trans ho)
      clear ho
      cases r with
      | true =>
        go_wp2_with fail
        go_ret
        exact ⟨⟨_, rfl, by omega, by omega⟩, HO.out⟩
      | false =>
        go_wp2_with fail
        go_roundw
        case rel => first | exact ⟨k + 1, by go_num, by omega, HO⟩ | ((repeat apply Exists.intro); exact ⟨⟨k + 1, by go_num, by omega, HO⟩, rfl⟩)
        case measure => simp [intOf]; omega
    · obtain rfl : k = n := by omega
      go_wp2_with fail
      go_ret
      exact ⟨⟨_, rfl, by omega, by omega⟩, HON.out⟩

/-! insert. -/
def insT (T : VT) (i : Nat) (m : ByteArray) (X : VT) : VT := .mk T.k T.i T.s T.t T.l (T.f.take i ++ (m, X) :: T.f.drop i)
def VV6 (v : VC) : Array Value := #[.int .i64 v.k, .int .i64 v.i, .int .i64 v.s, .string v.t, .slice v.la v.ln v.lc, .slice v.fa v.fn v.fc]
/-- A value and an error. -/
def retV (v : VC) (e : Int) : Ending := .returned (.tuple #[.agg #[.int .i64 v.k, .int .i64 v.i, .int .i64 v.s, .string v.t, .slice v.la v.ln v.lc, .slice v.fa v.fn v.fc], .int .i64 e])
/-- Blocks of S, and new ones. -/
def NewS (S : Nat → Prop) (w : World) : Nat → Prop := fun b => S b ∨ w.heap.size ≤ b
theorem own_low {w : World} {base : Nat} {e : TypeId} {k : Nat} {v : Value} {n : Nat} {xs : List Value} (h : w.ownsRow base e k v n xs) : ∀ b, v.ownBlock = some b → base ≤ b ∧ b < w.heap.size := fun b e => (h.lt b e)
theorem ins_any (A : Option Addr) (n c base vb i : Nat) (F : List FC) (x : FC) (w : World) (h : w.ownsRow base 72 7 (.slice A n c) n (cells FC.vals F)) (hF : F.length = n) (hn : n ≤ 100000) (hi : i ≤ n) (hx : Blk w vb 72 x.vals.toArray) (hvg : Value.ownBlock (.slice A n c) ≠ some vb) (hbase : base ≤ w.heap.size) :
    Calls Tryd.prog 51 #[.slice A n c, .int .i64 i, .slice (some ⟨vb, 0, none⟩) 1 1] w (InsPost A n c base (F.take i ++ x :: F.drop i) w) := by
  by_cases e : i = n
  · subst e
    have h1 : F.take i ++ x :: F.drop i = F ++ [x] := by rw [List.take_of_length_le (by omega), List.drop_of_length_le (by omega)]
    rw [h1]
    have hnc : i ≤ c := by
      rcases h.2 with ⟨e, h0⟩ | ⟨g, cap, cur, hv, _, _, hc, _⟩
      · omega
      · injection hv with _ _ h3
        omega
    exact ins_end A i c base vb F x w h hF hnc hn hx hbase
  · rcases h.2 with ⟨_, h0⟩ | ⟨g, cap, cur, hv, hb, hg, hc, _⟩
    · omega
    · injection hv with h1 h2 h3
      subst h1 h3
      by_cases hr : n + 1 ≤ c
      · exact ins_room g n c base vb i F x w h hF hr hn (by omega) hx (fun e => hvg (by rw [e]; rfl))
      · obtain rfl : c = n := by omega
        exact ins_grow g c base vb i F x w h hF hn (by omega) hx hbase
def InsertPost (S : Nat → Prop) (n : Nat) (T : VT) (m : ByteArray) (X : VT) (w : World) (e : Ending) (w' : World) : Prop :=
  ((64 ≤ T.f.length ∧ e = retV zeroC 9) ∨ (T.f.length < 64 ∧ ∃ v i, i ≤ T.f.length ∧ e = retV v 0 ∧ VAt w' (NewS S w) (n + 1) v (insT T i m X))) ∧ Only Nobody w w'
theorem Blk.put {w : World} {g : Nat} {t : TypeId} {cs : Array Value} (h : Blk w g t cs) {w' : World} (ho : Only Nobody w w') : Blk w' g t cs := ho.blk h (fun x => x)
theorem own_put {w w' : World} {base : Nat} {e : TypeId} {k : Nat} {v : Value} {n : Nat} {xs : List Value} (h : w.ownsRow base e k v n xs) (ho : Only Nobody w w') : w'.ownsRow base e k v n xs := ho.row h (fun _ _ x => x)
theorem row_low {w : World} {base B n c : Nat} {A : Option Addr} {F : List FC} (h : w.ownsRow base 72 7 (.slice A n c) n (cells FC.vals F)) (hB : B ≤ base) : RowA FC.vals 7 w (fun b => B ≤ b) A n F ∧ n ≤ c := by
  refine ⟨(RowA.of_own flen (by omega) h).mono (fun b _ hb => Nat.le_trans hB hb.1), ?_⟩
  rcases h.2 with ⟨e, h0⟩ | ⟨g, cap, cur, hv, _, _, hc, _⟩
  · omega
  · injection hv with _ _ h3
    omega
theorem All2.take {α β : Type} {R : α → β → Prop} {A : List α} {B : List β} (h : All2 R A B) (k : Nat) : All2 R (A.take k) (B.take k) := by
  refine ⟨by simp [h.1], fun j a b h1 h2 => ?_⟩
  by_cases hj : j < k
  · rw [List.getElem?_take_of_lt hj] at h1 h2
    exact h.2 j a b h1 h2
  · have := (List.getElem?_eq_some_iff.1 h1).1
    rw [List.length_take] at this
    omega
theorem All2.drop {α β : Type} {R : α → β → Prop} {A : List α} {B : List β} (h : All2 R A B) (k : Nat) : All2 R (A.drop k) (B.drop k) := by
  refine ⟨by simp [h.1], fun j a b h1 h2 => ?_⟩
  rw [List.getElem?_drop] at h1 h2
  exact h.2 _ a b h1 h2
theorem All2.put {α β : Type} {R : α → β → Prop} {A : List α} {B : List β} {a : α} {b : β} (h : All2 R A B) (k : Nat) (hr : R a b) : All2 R (A.take k ++ a :: A.drop k) (B.take k ++ b :: B.drop k) :=
  (h.take k).app ((All2.one hr).app (h.drop k))
theorem insert_post {S : Nat → Prop} {n N k : Nat} {T X : VT} {m : ByteArray} {v x : VC} {F : List FC} {w w1 w4 wE : World} {A4 : Option Addr} {c4 : Nat} (hk : k ≤ v.fn) (h64 : v.fn < 64)
    (heq : v.k = T.k ∧ v.i = T.i ∧ v.s = T.s ∧ v.t = T.t ∧ v.ln ≤ v.lc ∧ v.fn ≤ v.fc) (hL : ∃ V, RowA VC.vals 6 w S v.la v.ln V ∧ All2 (VAt w S n) V T.l) (hB : All2 (fun c x => c.n = x.1 ∧ VAt w S n c.v x.2) F T.f) (hx : VAt w S n x X) (hN : w.heap.size = N)
    (hF : F.length = v.fn) (ho1 : Only Nobody w w1) (hox : Only Nobody w1 w4) (hs1 : N + 4 ≤ w1.heap.size) (hr : RowA FC.vals 7 w4 (fun b => w1.heap.size ≤ b) A4 (v.fn + 1) (F.take k ++ ⟨m, x⟩ :: F.drop k) ∧ v.fn + 1 ≤ c4) (hE : Only (fun b => b = N ∨ b = N + 1 + 1 + 1) w4 wE) :
    InsertPost S n T m X w (retV ⟨v.k, v.i, v.s, v.t, v.la, v.ln, v.lc, A4, v.fn + 1, c4⟩ 0) wE := by
  have hfl : v.fn = T.f.length := by rw [← hF, hB.1]
  have hw4 := ho1.trans hox
  have hlow : ∀ {p : VC} {Y : VT}, VAt w S n p Y → VAt wE (NewS S w) n p Y := fun {p Y} h =>
    (((h.mono (S' := fun b => S b ∧ b < N) (fun b hb hs => ⟨hs, by omega⟩)).same hw4).keep hE (fun b hb e => by have := hb.2; omega)).mono (fun b _ hb => .inl hb.1)
  obtain ⟨V, hV, hA⟩ := hL
  refine ⟨.inr ⟨by omega, ⟨v.k, v.i, v.s, v.t, v.la, v.ln, v.lc, A4, v.fn + 1, c4⟩, k, by omega, rfl, ⟨heq.1, heq.2.1, heq.2.2.1, heq.2.2.2.1, heq.2.2.2.2.1, hr.2⟩, ⟨V, ?_, hA.imp fun _ _ h => hlow h⟩, ⟨_, (hr.1.keep hE (fun b hb e => by omega)).mono (fun b _ hb => .inr (by have h' : w1.heap.size ≤ b := hb; omega)), ?_⟩⟩, hw4.trans_more (hE.mono (fun b e => .inr (by omega)))⟩
  · exact (((hV.mono (S' := fun b => S b ∧ b < N) (fun b hb hs => ⟨hs, by omega⟩)).same hw4).keep hE (fun b hb e => by have := hb.2; omega)).mono (fun b _ hb => .inl hb.1)
  · exact (hB.imp fun _ _ h => ⟨h.1, hlow h.2⟩).put k ⟨rfl, hlow hx⟩
set_option maxRecDepth 100000 in
set_option maxHeartbeats 16000000 in
theorem insert_any (v x : VC) (T X : VT) (m : ByteArray) (S : Nat → Prop) (n : Nat) (w : World) (h : VAt w S (n + 1) v T) (hx : VAt w S n x X) : Calls Tryd.prog 32 #[.agg #[.int .i64 v.k, .int .i64 v.i, .int .i64 v.s, .string v.t, .slice v.la v.ln v.lc, .slice v.fa v.fn v.fc], .string m, .agg #[.int .i64 x.k, .int .i64 x.i, .int .i64 x.s, .string x.t, .slice x.la x.ln x.lc, .slice x.fa x.fn x.fc]] w (InsertPost S n T m X w) := by
  have HV := Lib.hid h
  have HX := Lib.hid hx
  obtain ⟨heq, hL, ⟨F, hF, hB⟩⟩ := h
  have HEQ := Lib.hid heq
  have HL := Lib.hid hL
  have HB := Lib.hid hB
  have HFL : Hid (v.fn = T.f.length) := Lib.hid (by rw [← hF.len, hB.1])
  have HF := Lib.hid hF
  clear hx hF heq hL hB
  obtain ⟨N, HN⟩ : ∃ N, Hid (w.heap.size = N) := ⟨_, Lib.hid rfl⟩
  obtain ⟨W, HW⟩ : ∃ W, Hid (W = (((w.alloc (.cells #[.int .i64 v.k, .int .i64 v.i, .int .i64 v.s, .string v.t, .slice v.la v.ln v.lc, .slice v.fa v.fn v.fc] 25)).alloc (.cells #[.string m] 9)).alloc (.cells #[.int .i64 x.k, .int .i64 x.i, .int .i64 x.s, .string x.t, .slice x.la x.ln x.lc, .slice x.fa x.fn x.fc] 25)).alloc (.cells #[.int .i64 0, .int .i64 0, .int .i64 0, .string ⟨#[]⟩, .slice none 0 0, .slice none 0 0] 25)) := ⟨_, Lib.hid rfl⟩
  have HOA : Hid (Only Nobody w W) := Lib.hid (by rw [HW.out]; exact ((((Only.refl _ _).alloc _).alloc _).alloc _).alloc _)
  have HB0 : Hid (Blk W N 25 #[.int .i64 v.k, .int .i64 v.i, .int .i64 v.s, .string v.t, .slice v.la v.ln v.lc, .slice v.fa v.fn v.fc]) := Lib.hid (by rw [HW.out, ← HN.out]; exact (((Blk.new _ _ _).alloc _).alloc _).alloc _)
  have HB1 : Hid (Blk W (N + 1) 9 #[.string m]) := Lib.hid (by
    have := (Blk.new (w.alloc (.cells #[.int .i64 v.k, .int .i64 v.i, .int .i64 v.s, .string v.t, .slice v.la v.ln v.lc, .slice v.fa v.fn v.fc] 25)) 9 #[.string m])
    rw [HW.out, ← HN.out]
    simpa using (this.alloc (.cells #[.int .i64 x.k, .int .i64 x.i, .int .i64 x.s, .string x.t, .slice x.la x.ln x.lc, .slice x.fa x.fn x.fc] 25)).alloc (.cells #[.int .i64 0, .int .i64 0, .int .i64 0, .string ⟨#[]⟩, .slice none 0 0, .slice none 0 0] 25))
  have HB2 : Hid (Blk W (N + 1 + 1) 25 #[.int .i64 x.k, .int .i64 x.i, .int .i64 x.s, .string x.t, .slice x.la x.ln x.lc, .slice x.fa x.fn x.fc]) := Lib.hid (by
    have := (Blk.new ((w.alloc (.cells #[.int .i64 v.k, .int .i64 v.i, .int .i64 v.s, .string v.t, .slice v.la v.ln v.lc, .slice v.fa v.fn v.fc] 25)).alloc (.cells #[.string m] 9)) 25 #[.int .i64 x.k, .int .i64 x.i, .int .i64 x.s, .string x.t, .slice x.la x.ln x.lc, .slice x.fa x.fn x.fc])
    rw [HW.out, ← HN.out]
    simpa using this.alloc (.cells #[.int .i64 0, .int .i64 0, .int .i64 0, .string ⟨#[]⟩, .slice none 0 0, .slice none 0 0] 25))
  have HB3 : Hid (Blk W (N + 1 + 1 + 1) 25 #[.int .i64 0, .int .i64 0, .int .i64 0, .string ⟨#[]⟩, .slice none 0 0, .slice none 0 0]) := Lib.hid (by
    have := (Blk.new (((w.alloc (.cells #[.int .i64 v.k, .int .i64 v.i, .int .i64 v.s, .string v.t, .slice v.la v.ln v.lc, .slice v.fa v.fn v.fc] 25)).alloc (.cells #[.string m] 9)).alloc (.cells #[.int .i64 x.k, .int .i64 x.i, .int .i64 x.s, .string x.t, .slice x.la x.ln x.lc, .slice x.fa x.fn x.fc] 25)) 25 #[.int .i64 0, .int .i64 0, .int .i64 0, .string ⟨#[]⟩, .slice none 0 0, .slice none 0 0])
    rw [HW.out, ← HN.out]
    simpa using this)
  have HWS : Hid (W.heap.size = N + 4) := Lib.hid (by rw [HW.out, ← HN.out]; simp)
  go_enter Tryd.func32, Tryd.ntmps32
  go_upto_region 1 with fail
  rw [← HW.out, HN.out]
  by_cases h64 : 64 ≤ v.fn
  · have h64I : (64 : Int) ≤ (v.fn : Int) := by omega
    have HPOST : Hid (∀ wE, Only (fun b => b = N + 1 + 1 + 1) W wE → InsertPost S n T m X w (retV zeroC 9) wE) := Lib.hid fun wE hE =>
      ⟨.inl ⟨by rw [← HFL.out]; exact h64, rfl⟩, HOA.out.trans_more (hE.mono (fun b e => .inr (by rw [e, HN.out]; omega)))⟩
    have b0 : W.cell? ⟨N, 0, none⟩ = some (.int .i64 v.k) := (HB0.out).cell 0
    have bf0 : W.frozen? ⟨N, 0, none⟩ = false := (HB0.out).frozen 0
    have b1 : W.cell? ⟨N, 1, none⟩ = some (.int .i64 v.i) := (HB0.out).cell 1
    have bf1 : W.frozen? ⟨N, 1, none⟩ = false := (HB0.out).frozen 1
    have b2 : W.cell? ⟨N, 2, none⟩ = some (.int .i64 v.s) := (HB0.out).cell 2
    have bf2 : W.frozen? ⟨N, 2, none⟩ = false := (HB0.out).frozen 2
    have b3 : W.cell? ⟨N, 3, none⟩ = some (.string v.t) := (HB0.out).cell 3
    have bf3 : W.frozen? ⟨N, 3, none⟩ = false := (HB0.out).frozen 3
    have b4 : W.cell? ⟨N, 4, none⟩ = some (.slice v.la v.ln v.lc) := (HB0.out).cell 4
    have bf4 : W.frozen? ⟨N, 4, none⟩ = false := (HB0.out).frozen 4
    have b5 : W.cell? ⟨N, 5, none⟩ = some (.slice v.fa v.fn v.fc) := (HB0.out).cell 5
    have bf5 : W.frozen? ⟨N, 5, none⟩ = false := (HB0.out).frozen 5
    have r0 : W.cell? ⟨N + 1 + 1 + 1, 0, none⟩ = some (.int .i64 0) := (HB3.out).cell 0
    have rf0 : W.frozen? ⟨N + 1 + 1 + 1, 0, none⟩ = false := (HB3.out).frozen 0
    have r1 : W.cell? ⟨N + 1 + 1 + 1, 1, none⟩ = some (.int .i64 0) := (HB3.out).cell 1
    have rf1 : W.frozen? ⟨N + 1 + 1 + 1, 1, none⟩ = false := (HB3.out).frozen 1
    have r2 : W.cell? ⟨N + 1 + 1 + 1, 2, none⟩ = some (.int .i64 0) := (HB3.out).cell 2
    have rf2 : W.frozen? ⟨N + 1 + 1 + 1, 2, none⟩ = false := (HB3.out).frozen 2
    have r3 : W.cell? ⟨N + 1 + 1 + 1, 3, none⟩ = some (.string ⟨#[]⟩) := (HB3.out).cell 3
    have rf3 : W.frozen? ⟨N + 1 + 1 + 1, 3, none⟩ = false := (HB3.out).frozen 3
    have r4 : W.cell? ⟨N + 1 + 1 + 1, 4, none⟩ = some (.slice none 0 0) := (HB3.out).cell 4
    have rf4 : W.frozen? ⟨N + 1 + 1 + 1, 4, none⟩ = false := (HB3.out).frozen 4
    have r5 : W.cell? ⟨N + 1 + 1 + 1, 5, none⟩ = some (.slice none 0 0) := (HB3.out).cell 5
    have rf5 : W.frozen? ⟨N + 1 + 1 + 1, 5, none⟩ = false := (HB3.out).frozen 5
    go_wp2_with fail
    exact bodyPost_ret (v := .tuple #[.agg #[.int .i64 0, .int .i64 0, .int .i64 0, .string ⟨#[]⟩, .slice none 0 0, .slice none 0 0], .int .i64 9]) (by simp [results, Tryd.results32, go_sem, r0, r1, r2, r3, r4, r5]) rfl (HPOST.out _ (by repeat (first | with_reducible exact Only.refl _ _ | with_reducible refine Only.drew ?_ | with_reducible refine Only.alloc ?_ _ | with_reducible refine Only.setCell ?_ (Or.inl ?_) _ | exact rfl | exact Or.inl rfl | exact Or.inr rfl)))
  · have h64I : ¬ (64 : Int) ≤ (v.fn : Int) := by omega
    have hfn : v.fn ≤ 1353245080300 := by omega
    have b0 : W.cell? ⟨N, 0, none⟩ = some (.int .i64 v.k) := (HB0.out).cell 0
    have b1 : W.cell? ⟨N, 1, none⟩ = some (.int .i64 v.i) := (HB0.out).cell 1
    have b2 : W.cell? ⟨N, 2, none⟩ = some (.int .i64 v.s) := (HB0.out).cell 2
    have b3 : W.cell? ⟨N, 3, none⟩ = some (.string v.t) := (HB0.out).cell 3
    have b4 : W.cell? ⟨N, 4, none⟩ = some (.slice v.la v.ln v.lc) := (HB0.out).cell 4
    have b5 : W.cell? ⟨N, 5, none⟩ = some (.slice v.fa v.fn v.fc) := (HB0.out).cell 5
    have r0 : W.cell? ⟨N + 1 + 1 + 1, 0, none⟩ = some (.int .i64 0) := (HB3.out).cell 0
    have r1 : W.cell? ⟨N + 1 + 1 + 1, 1, none⟩ = some (.int .i64 0) := (HB3.out).cell 1
    have r2 : W.cell? ⟨N + 1 + 1 + 1, 2, none⟩ = some (.int .i64 0) := (HB3.out).cell 2
    have r3 : W.cell? ⟨N + 1 + 1 + 1, 3, none⟩ = some (.string ⟨#[]⟩) := (HB3.out).cell 3
    have r4 : W.cell? ⟨N + 1 + 1 + 1, 4, none⟩ = some (.slice none 0 0) := (HB3.out).cell 4
    have r5 : W.cell? ⟨N + 1 + 1 + 1, 5, none⟩ = some (.slice none 0 0) := (HB3.out).cell 5
    have c10 : W.cell? ⟨N + 1, 0, none⟩ = some (.string m) := HB1.out.cell 0
    go_wp2_with fail
    refine (indexG_any v.fa v.fn v.fc F S (N + 1) m hfn W (HF.out.same HOA.out) c10 (by rw [HWS.out]; omega)).mono ?_
    rintro e w1 ⟨⟨z, rfl, hz1, hz2⟩, ho1⟩
    have HW1 := Lib.hid ho1
    have HO1 := Lib.hid (HOA.out.trans ho1)
    have HC0 : Hid (∀ w', Only Nobody w1 w' → Blk w' N 25 #[.int .i64 v.k, .int .i64 v.i, .int .i64 v.s, .string v.t, .slice v.la v.ln v.lc, .slice v.fa v.fn v.fc]) := Lib.hid fun w' h => HB0.out.put (HW1.out.trans h)
    have HC1 : Hid (∀ w', Only Nobody w1 w' → Blk w' (N + 1) 9 #[.string m]) := Lib.hid fun w' h => HB1.out.put (HW1.out.trans h)
    have HC2 : Hid (∀ w', Only Nobody w1 w' → Blk w' (N + 1 + 1) 25 #[.int .i64 x.k, .int .i64 x.i, .int .i64 x.s, .string x.t, .slice x.la x.ln x.lc, .slice x.fa x.fn x.fc]) := Lib.hid fun w' h => HB2.out.put (HW1.out.trans h)
    have HC3 : Hid (∀ w', Only Nobody w1 w' → Blk w' (N + 1 + 1 + 1) 25 #[.int .i64 0, .int .i64 0, .int .i64 0, .string ⟨#[]⟩, .slice none 0 0, .slice none 0 0]) := Lib.hid fun w' h => HB3.out.put (HW1.out.trans h)
    have HS1 : Hid (N + 4 ≤ w1.heap.size) := Lib.hid (by rw [← HWS.out]; exact HW1.out.size)
    clear ho1 c10 b0 r0 b1 r1 b2 r2 b3 r3 b4 r4 b5 r5
    have HR1 := Lib.hid (Only.refl Nobody w1)
    have b0 : w1.cell? ⟨N, 0, none⟩ = some (.int .i64 v.k) := ((HC0.out w1 HR1.out)).cell 0
    have b1 : w1.cell? ⟨N, 1, none⟩ = some (.int .i64 v.i) := ((HC0.out w1 HR1.out)).cell 1
    have b2 : w1.cell? ⟨N, 2, none⟩ = some (.int .i64 v.s) := ((HC0.out w1 HR1.out)).cell 2
    have b3 : w1.cell? ⟨N, 3, none⟩ = some (.string v.t) := ((HC0.out w1 HR1.out)).cell 3
    have b4 : w1.cell? ⟨N, 4, none⟩ = some (.slice v.la v.ln v.lc) := ((HC0.out w1 HR1.out)).cell 4
    have b5 : w1.cell? ⟨N, 5, none⟩ = some (.slice v.fa v.fn v.fc) := ((HC0.out w1 HR1.out)).cell 5
    by_cases hz : z < 0
    · go_upto_region 6 with fail
      have HZ1 : Hid (∀ w', Only Nobody (w1.alloc (.cells #[.string m, .int .i64 x.k, .int .i64 x.i, .int .i64 x.s, .string x.t, .slice x.la x.ln x.lc, .slice x.fa x.fn x.fc] 72)) w' → Blk w' w1.heap.size 72 #[.string m, .int .i64 x.k, .int .i64 x.i, .int .i64 x.s, .string x.t, .slice x.la x.ln x.lc, .slice x.fa x.fn x.fc]) := Lib.hid fun w' h' => h'.blk (Blk.new w1 _ _) (fun x => x)
      have HOX := Lib.hid (Only.refl Nobody w1)
      have HOXN := Lib.hid (Only.refl (fun b => b = N) w1)
      have HSC : Hid (∀ w', Only (fun b => b = N) w1 w' → w'.cell? ⟨N + 1, 0, none⟩ = some (.string m) ∧ w'.cell? ⟨N + 1 + 1, 0, none⟩ = some (.int .i64 x.k) ∧ w'.cell? ⟨N + 1 + 1, 1, none⟩ = some (.int .i64 x.i) ∧ w'.cell? ⟨N + 1 + 1, 2, none⟩ = some (.int .i64 x.s) ∧ w'.cell? ⟨N + 1 + 1, 3, none⟩ = some (.string x.t) ∧ w'.cell? ⟨N + 1 + 1, 4, none⟩ = some (.slice x.la x.ln x.lc) ∧ w'.cell? ⟨N + 1 + 1, 5, none⟩ = some (.slice x.fa x.fn x.fc)) := Lib.hid fun w' h => by
        have h1 := h.blk (HC1.out w1 (Only.refl _ _)) (by omega)
        have h2 := h.blk (HC2.out w1 (Only.refl _ _)) (by omega)
        exact ⟨h1.cell 0, h2.cell 0, h2.cell 1, h2.cell 2, h2.cell 3, h2.cell 4, h2.cell 5⟩
      have hsc := HSC.out w1 HOXN.out
      obtain ⟨c0, d0, d1, d2, d3, d4, d5⟩ := hsc
      have e5 : (w1.alloc (.cells #[.string m, .int .i64 x.k, .int .i64 x.i, .int .i64 x.s, .string x.t, .slice x.la x.ln x.lc, .slice x.fa x.fn x.fc] 72)).cell? ⟨N, 5, none⟩ = some (.slice v.fa v.fn v.fc) := (HC0.out _ ((Only.refl _ _).alloc _)).cell 5
      go_region_law (first
        | (go_simp; go_at_call 52; refine (clonef_any v.fa v.fn v.fc F S _ (HF.out.same (HO1.out.trans (by repeat (first | with_reducible exact HOX.out | with_reducible exact Only.refl _ _ | with_reducible refine Only.drew ?_ | with_reducible refine Only.alloc ?_ _)))) hfn).mono ?_; rintro e w3 ⟨A3, c3, rfl, hown3, ho3⟩; have HNE := Lib.hid (own_low hown3); have HOW3 : Hid (w3.ownsRow w1.heap.size 72 7 (.slice A3 v.fn c3) v.fn (cells FC.vals F)) := Lib.hid (Go.Joins.ownsRow_le hown3 (Only.size (F := Nobody) (by repeat (first | with_reducible exact HOX.out | with_reducible exact Only.refl _ _ | with_reducible refine Only.drew ?_ | with_reducible refine Only.alloc ?_ _)))); have HSZ3 : Hid (w1.heap.size ≤ w3.heap.size) := Lib.hid (Only.size (F := Nobody) (Only.trans (by repeat (first | with_reducible exact HOX.out | with_reducible exact Only.refl _ _ | with_reducible refine Only.drew ?_ | with_reducible refine Only.alloc ?_ _)) ho3)); (first | (with_reducible have HVB := Lib.hid (HZ1.out w3 ho3)) | (have HVB := Lib.hid (HZ1.out w3 (Only.trans (Only.refl _ _).drew ho3))) | skip); have HOX : Hid (Only Nobody w1 w3) := Lib.hid (Only.trans (by repeat (first | with_reducible exact HOX.out | with_reducible exact Only.refl _ _ | with_reducible refine Only.drew ?_ | with_reducible refine Only.alloc ?_ _)) ho3); have HOXN : Hid (Only (fun b => b = N) w1 w3) := Lib.hid (HOX.out.mono (fun _ x => x.elim)); have b5 : w3.cell? ⟨N, 5, none⟩ = some (.slice v.fa v.fn v.fc) := (HC0.out w3 HOX.out).cell 5; obtain ⟨c0, d0, d1, d2, d3, d4, d5⟩ := HSC.out w3 HOXN.out; clear hown3 ho3)
        | (go_simp; go_at_call 51; refine (ins_any A3 v.fn c3 _ _ v.fn F ⟨m, x⟩ _ (own_put HOW3.out (by repeat (first | with_reducible exact Only.refl _ _ | with_reducible refine Only.drew ?_ | with_reducible refine Only.alloc ?_ _))) HF.out.len (by omega) (Nat.le_refl _) (by first | exact HVB.out | exact Blk.new w3 _ _) (by intro e; have h1 := HNE.out _ e; simp at h1 <;> omega) (Nat.le_trans HSZ3.out (Only.size (F := Nobody) (by repeat (first | with_reducible exact Only.refl _ _ | with_reducible refine Only.drew ?_ | with_reducible refine Only.alloc ?_ _))))).mono ?_; rintro e w4 ⟨A4, c4, rfl, hown4, ho4⟩; have HOW4 := Lib.hid hown4; have HOX : Hid (Only Nobody w1 w4) := Lib.hid (Only.trans_more (by repeat (first | with_reducible exact HOX.out | with_reducible exact Only.refl _ _ | with_reducible refine Only.drew ?_ | with_reducible refine Only.alloc ?_ _)) (ho4.mono (fun b e => .inr (own_low HOW3.out b e).1))); have HOXN : Hid (Only (fun b => b = N) w1 w4) := Lib.hid (HOX.out.mono (fun _ x => x.elim)); have hb0 := HC0.out w4 HOX.out; have hb3 := HC3.out w4 HOX.out; have b0 : w4.cell? ⟨N, 0, none⟩ = some (.int .i64 v.k) := (hb0).cell 0; have bf0 : w4.frozen? ⟨N, 0, none⟩ = false := (hb0).frozen 0; have b1 : w4.cell? ⟨N, 1, none⟩ = some (.int .i64 v.i) := (hb0).cell 1; have bf1 : w4.frozen? ⟨N, 1, none⟩ = false := (hb0).frozen 1; have b2 : w4.cell? ⟨N, 2, none⟩ = some (.int .i64 v.s) := (hb0).cell 2; have bf2 : w4.frozen? ⟨N, 2, none⟩ = false := (hb0).frozen 2; have b3 : w4.cell? ⟨N, 3, none⟩ = some (.string v.t) := (hb0).cell 3; have bf3 : w4.frozen? ⟨N, 3, none⟩ = false := (hb0).frozen 3; have b4 : w4.cell? ⟨N, 4, none⟩ = some (.slice v.la v.ln v.lc) := (hb0).cell 4; have bf4 : w4.frozen? ⟨N, 4, none⟩ = false := (hb0).frozen 4; have b5 : w4.cell? ⟨N, 5, none⟩ = some (.slice v.fa v.fn v.fc) := (hb0).cell 5; have bf5 : w4.frozen? ⟨N, 5, none⟩ = false := (hb0).frozen 5; have r0 : w4.cell? ⟨N + 1 + 1 + 1, 0, none⟩ = some (.int .i64 0) := (hb3).cell 0; have rf0 : w4.frozen? ⟨N + 1 + 1 + 1, 0, none⟩ = false := (hb3).frozen 0; have r1 : w4.cell? ⟨N + 1 + 1 + 1, 1, none⟩ = some (.int .i64 0) := (hb3).cell 1; have rf1 : w4.frozen? ⟨N + 1 + 1 + 1, 1, none⟩ = false := (hb3).frozen 1; have r2 : w4.cell? ⟨N + 1 + 1 + 1, 2, none⟩ = some (.int .i64 0) := (hb3).cell 2; have rf2 : w4.frozen? ⟨N + 1 + 1 + 1, 2, none⟩ = false := (hb3).frozen 2; have r3 : w4.cell? ⟨N + 1 + 1 + 1, 3, none⟩ = some (.string ⟨#[]⟩) := (hb3).cell 3; have rf3 : w4.frozen? ⟨N + 1 + 1 + 1, 3, none⟩ = false := (hb3).frozen 3; have r4 : w4.cell? ⟨N + 1 + 1 + 1, 4, none⟩ = some (.slice none 0 0) := (hb3).cell 4; have rf4 : w4.frozen? ⟨N + 1 + 1 + 1, 4, none⟩ = false := (hb3).frozen 4; have r5 : w4.cell? ⟨N + 1 + 1 + 1, 5, none⟩ = some (.slice none 0 0) := (hb3).cell 5; have rf5 : w4.frozen? ⟨N + 1 + 1 + 1, 5, none⟩ = false := (hb3).frozen 5; have HRW4 := Lib.hid (row_low HOW4.out (Nat.le_refl _)); clear hown4 ho4 hb0 hb3))
      all_goals
        have HPOST : Hid (∀ wE, Only (fun b => b = N ∨ b = N + 1 + 1 + 1) w4 wE → InsertPost S n T m X w (retV ⟨v.k, v.i, v.s, v.t, v.la, v.ln, v.lc, A4, v.fn + 1, c4⟩ 0) wE) := Lib.hid fun wE hE =>
          insert_post (Nat.le_refl _) (by omega) HEQ.out HL.out HB.out HX.out HN.out HF.out.len HO1.out HOX.out HS1.out HRW4.out hE
        go_wp2_with fail
        exact bodyPost_ret (v := .tuple #[.agg #[.int .i64 v.k, .int .i64 v.i, .int .i64 v.s, .string v.t, .slice v.la v.ln v.lc, .slice A4 (v.fn + 1) c4], .int .i64 0]) (by simp [results, Tryd.results32, go_sem, r0, r1, r2, r3, r4, r5]) rfl (HPOST.out _ (by repeat (first | with_reducible exact Only.refl _ _ | with_reducible refine Only.drew ?_ | with_reducible refine Only.alloc ?_ _ | with_reducible refine Only.setCell ?_ (Or.inl ?_) _ | exact rfl | exact Or.inl rfl | exact Or.inr rfl)))
    · obtain ⟨k, rfl⟩ : ∃ k : Nat, z = (k : Int) := ⟨z.toNat, by omega⟩
      have hk : k ≤ v.fn := by omega
      go_upto_region 6 with fail
      have HZ1 : Hid (∀ w', Only Nobody (w1.alloc (.cells #[.string m, .int .i64 x.k, .int .i64 x.i, .int .i64 x.s, .string x.t, .slice x.la x.ln x.lc, .slice x.fa x.fn x.fc] 72)) w' → Blk w' w1.heap.size 72 #[.string m, .int .i64 x.k, .int .i64 x.i, .int .i64 x.s, .string x.t, .slice x.la x.ln x.lc, .slice x.fa x.fn x.fc]) := Lib.hid fun w' h' => h'.blk (Blk.new w1 _ _) (fun x => x)
      have HOX := Lib.hid (Only.refl Nobody w1)
      have HOXN := Lib.hid (Only.refl (fun b => b = N) w1)
      have HSC : Hid (∀ w', Only (fun b => b = N) w1 w' → w'.cell? ⟨N + 1, 0, none⟩ = some (.string m) ∧ w'.cell? ⟨N + 1 + 1, 0, none⟩ = some (.int .i64 x.k) ∧ w'.cell? ⟨N + 1 + 1, 1, none⟩ = some (.int .i64 x.i) ∧ w'.cell? ⟨N + 1 + 1, 2, none⟩ = some (.int .i64 x.s) ∧ w'.cell? ⟨N + 1 + 1, 3, none⟩ = some (.string x.t) ∧ w'.cell? ⟨N + 1 + 1, 4, none⟩ = some (.slice x.la x.ln x.lc) ∧ w'.cell? ⟨N + 1 + 1, 5, none⟩ = some (.slice x.fa x.fn x.fc)) := Lib.hid fun w' h => by
        have h1 := h.blk (HC1.out w1 (Only.refl _ _)) (by omega)
        have h2 := h.blk (HC2.out w1 (Only.refl _ _)) (by omega)
        exact ⟨h1.cell 0, h2.cell 0, h2.cell 1, h2.cell 2, h2.cell 3, h2.cell 4, h2.cell 5⟩
      have hsc := HSC.out w1 HOXN.out
      obtain ⟨c0, d0, d1, d2, d3, d4, d5⟩ := hsc
      have e5 : (w1.alloc (.cells #[.string m, .int .i64 x.k, .int .i64 x.i, .int .i64 x.s, .string x.t, .slice x.la x.ln x.lc, .slice x.fa x.fn x.fc] 72)).cell? ⟨N, 5, none⟩ = some (.slice v.fa v.fn v.fc) := (HC0.out _ ((Only.refl _ _).alloc _)).cell 5
      go_region_law (first
        | (go_simp; go_at_call 52; refine (clonef_any v.fa v.fn v.fc F S _ (HF.out.same (HO1.out.trans (by repeat (first | with_reducible exact HOX.out | with_reducible exact Only.refl _ _ | with_reducible refine Only.drew ?_ | with_reducible refine Only.alloc ?_ _)))) hfn).mono ?_; rintro e w3 ⟨A3, c3, rfl, hown3, ho3⟩; have HNE := Lib.hid (own_low hown3); have HOW3 : Hid (w3.ownsRow w1.heap.size 72 7 (.slice A3 v.fn c3) v.fn (cells FC.vals F)) := Lib.hid (Go.Joins.ownsRow_le hown3 (Only.size (F := Nobody) (by repeat (first | with_reducible exact HOX.out | with_reducible exact Only.refl _ _ | with_reducible refine Only.drew ?_ | with_reducible refine Only.alloc ?_ _)))); have HSZ3 : Hid (w1.heap.size ≤ w3.heap.size) := Lib.hid (Only.size (F := Nobody) (Only.trans (by repeat (first | with_reducible exact HOX.out | with_reducible exact Only.refl _ _ | with_reducible refine Only.drew ?_ | with_reducible refine Only.alloc ?_ _)) ho3)); (first | (with_reducible have HVB := Lib.hid (HZ1.out w3 ho3)) | (have HVB := Lib.hid (HZ1.out w3 (Only.trans (Only.refl _ _).drew ho3))) | skip); have HOX : Hid (Only Nobody w1 w3) := Lib.hid (Only.trans (by repeat (first | with_reducible exact HOX.out | with_reducible exact Only.refl _ _ | with_reducible refine Only.drew ?_ | with_reducible refine Only.alloc ?_ _)) ho3); have HOXN : Hid (Only (fun b => b = N) w1 w3) := Lib.hid (HOX.out.mono (fun _ x => x.elim)); have b5 : w3.cell? ⟨N, 5, none⟩ = some (.slice v.fa v.fn v.fc) := (HC0.out w3 HOX.out).cell 5; obtain ⟨c0, d0, d1, d2, d3, d4, d5⟩ := HSC.out w3 HOXN.out; clear hown3 ho3)
        | (go_simp; go_at_call 51; refine (ins_any A3 v.fn c3 _ _ k F ⟨m, x⟩ _ (own_put HOW3.out (by repeat (first | with_reducible exact Only.refl _ _ | with_reducible refine Only.drew ?_ | with_reducible refine Only.alloc ?_ _))) HF.out.len (by omega) hk (by first | exact HVB.out | exact Blk.new w3 _ _) (by intro e; have h1 := HNE.out _ e; simp at h1 <;> omega) (Nat.le_trans HSZ3.out (Only.size (F := Nobody) (by repeat (first | with_reducible exact Only.refl _ _ | with_reducible refine Only.drew ?_ | with_reducible refine Only.alloc ?_ _))))).mono ?_; rintro e w4 ⟨A4, c4, rfl, hown4, ho4⟩; have HOW4 := Lib.hid hown4; have HOX : Hid (Only Nobody w1 w4) := Lib.hid (Only.trans_more (by repeat (first | with_reducible exact HOX.out | with_reducible exact Only.refl _ _ | with_reducible refine Only.drew ?_ | with_reducible refine Only.alloc ?_ _)) (ho4.mono (fun b e => .inr (own_low HOW3.out b e).1))); have HOXN : Hid (Only (fun b => b = N) w1 w4) := Lib.hid (HOX.out.mono (fun _ x => x.elim)); have hb0 := HC0.out w4 HOX.out; have hb3 := HC3.out w4 HOX.out; have b0 : w4.cell? ⟨N, 0, none⟩ = some (.int .i64 v.k) := (hb0).cell 0; have bf0 : w4.frozen? ⟨N, 0, none⟩ = false := (hb0).frozen 0; have b1 : w4.cell? ⟨N, 1, none⟩ = some (.int .i64 v.i) := (hb0).cell 1; have bf1 : w4.frozen? ⟨N, 1, none⟩ = false := (hb0).frozen 1; have b2 : w4.cell? ⟨N, 2, none⟩ = some (.int .i64 v.s) := (hb0).cell 2; have bf2 : w4.frozen? ⟨N, 2, none⟩ = false := (hb0).frozen 2; have b3 : w4.cell? ⟨N, 3, none⟩ = some (.string v.t) := (hb0).cell 3; have bf3 : w4.frozen? ⟨N, 3, none⟩ = false := (hb0).frozen 3; have b4 : w4.cell? ⟨N, 4, none⟩ = some (.slice v.la v.ln v.lc) := (hb0).cell 4; have bf4 : w4.frozen? ⟨N, 4, none⟩ = false := (hb0).frozen 4; have b5 : w4.cell? ⟨N, 5, none⟩ = some (.slice v.fa v.fn v.fc) := (hb0).cell 5; have bf5 : w4.frozen? ⟨N, 5, none⟩ = false := (hb0).frozen 5; have r0 : w4.cell? ⟨N + 1 + 1 + 1, 0, none⟩ = some (.int .i64 0) := (hb3).cell 0; have rf0 : w4.frozen? ⟨N + 1 + 1 + 1, 0, none⟩ = false := (hb3).frozen 0; have r1 : w4.cell? ⟨N + 1 + 1 + 1, 1, none⟩ = some (.int .i64 0) := (hb3).cell 1; have rf1 : w4.frozen? ⟨N + 1 + 1 + 1, 1, none⟩ = false := (hb3).frozen 1; have r2 : w4.cell? ⟨N + 1 + 1 + 1, 2, none⟩ = some (.int .i64 0) := (hb3).cell 2; have rf2 : w4.frozen? ⟨N + 1 + 1 + 1, 2, none⟩ = false := (hb3).frozen 2; have r3 : w4.cell? ⟨N + 1 + 1 + 1, 3, none⟩ = some (.string ⟨#[]⟩) := (hb3).cell 3; have rf3 : w4.frozen? ⟨N + 1 + 1 + 1, 3, none⟩ = false := (hb3).frozen 3; have r4 : w4.cell? ⟨N + 1 + 1 + 1, 4, none⟩ = some (.slice none 0 0) := (hb3).cell 4; have rf4 : w4.frozen? ⟨N + 1 + 1 + 1, 4, none⟩ = false := (hb3).frozen 4; have r5 : w4.cell? ⟨N + 1 + 1 + 1, 5, none⟩ = some (.slice none 0 0) := (hb3).cell 5; have rf5 : w4.frozen? ⟨N + 1 + 1 + 1, 5, none⟩ = false := (hb3).frozen 5; have HRW4 := Lib.hid (row_low HOW4.out (Nat.le_refl _)); clear hown4 ho4 hb0 hb3))
      all_goals
        have HPOST : Hid (∀ wE, Only (fun b => b = N ∨ b = N + 1 + 1 + 1) w4 wE → InsertPost S n T m X w (retV ⟨v.k, v.i, v.s, v.t, v.la, v.ln, v.lc, A4, v.fn + 1, c4⟩ 0) wE) := Lib.hid fun wE hE =>
          insert_post hk (by omega) HEQ.out HL.out HB.out HX.out HN.out HF.out.len HO1.out HOX.out HS1.out HRW4.out hE
        go_wp2_with fail
        exact bodyPost_ret (v := .tuple #[.agg #[.int .i64 v.k, .int .i64 v.i, .int .i64 v.s, .string v.t, .slice v.la v.ln v.lc, .slice A4 (v.fn + 1) c4], .int .i64 0]) (by simp [results, Tryd.results32, go_sem, r0, r1, r2, r3, r4, r5]) rfl (HPOST.out _ (by repeat (first | with_reducible exact Only.refl _ _ | with_reducible refine Only.drew ?_ | with_reducible refine Only.alloc ?_ _ | with_reducible refine Only.setCell ?_ (Or.inl ?_) _ | exact rfl | exact Or.inl rfl | exact Or.inr rfl)))
end Go.Proofs.YtdccckoelnnnoaaDoor
