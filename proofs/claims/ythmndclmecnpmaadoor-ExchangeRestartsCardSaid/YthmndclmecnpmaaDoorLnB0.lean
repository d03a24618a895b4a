/- Exchange: a step of a link: plain. -/
import Derived.Test.YthmndclmecnpmaaDoorLnA
import Derived.Test.YthmndclmecnpmaaDoorDecL
import Derived.Deep.DeepCutAuto
namespace Go.Proofs.YthmndclmecnpmaaDoor
open Go.RowKit
open Nw (Net NetS netSendAll netTake netLeft pksOf Grows Small)
attribute [local go_sem ↓] Go.wp_at_zero Go.wp_at_succ

/-! The law's texts and packets. -/
def q_ : ByteArray := ⟨#[113]⟩
def txS (n : Nat) : ByteArray := ⟨#[116]⟩ ++ decS (n * n % 97)
theorem txS_size (n : Nat) : (txS n).size ≤ 30 := by
  unfold txS
  rw [ByteArray.size_append]
  have := decS_size (n := n * n % 97) (by omega)
  show 1 + _ ≤ 30
  omega
def pD (n : Nat) : Pkt := ⟨1, q_, (n : Int), txS n⟩
def pA (n : Nat) : Pkt := ⟨2, q_, (n : Int), ⟨#[]⟩⟩
def eDs (n : Nat) : ByteArray := pEnc (pD n)
def eAs (n : Nat) : ByteArray := pEnc (pA n)
theorem q_name : nameB q_ = true := by decide +kernel
theorem err_D {n : Nat} (h1 : 1 ≤ n) (h2 : n ≤ 60) : pErr (pD n) = 0 := by
  have := txS_size n
  unfold pErr pD
  simp only []
  rw [if_neg (by simp), if_neg (by rw [q_name]; simp), if_neg (by simp; omega), if_neg (by omega), if_neg (by simp)]
theorem err_A {n : Nat} (h2 : n ≤ 60) : pErr (pA n) = 0 := by
  unfold pErr pA
  simp only []
  rw [if_neg (by simp), if_neg (by rw [q_name]; simp), if_neg (by simp; omega), if_neg (by decide), if_neg (by simp)]
theorem inj_D {a b : Nat} (ha : 1 ≤ a ∧ a ≤ 60) (hb : 1 ≤ b ∧ b ≤ 60) (h : eDs a = eDs b) : a = b := by
  have h1 := (dec_enc (pD a) (err_D ha.1 ha.2)).1
  have h2 := (dec_enc (pD b) (err_D hb.1 hb.2)).1
  unfold eDs at h
  rw [h, h2] at h1
  have : ((b : Nat) : Int) = (a : Int) := congrArg Pkt.num h1
  omega
theorem inj_A {a b : Nat} (ha : a ≤ 60) (hb : b ≤ 60) (h : eAs a = eAs b) : a = b := by
  have h1 := (dec_enc (pA a) (err_A ha)).1
  have h2 := (dec_enc (pA b) (err_A hb)).1
  unfold eAs at h
  rw [h, h2] at h1
  have : ((b : Nat) : Int) = (a : Int) := congrArg Pkt.num h1
  omega
set_option maxRecDepth 100000 in
set_option maxHeartbeats 1000000 in
theorem text_nat (n : Nat) (hn : n ≤ 60) (w : World) : Calls Tryd.prog 17 #[.int .i64 (n : Int)] w fun e w' => e = .returned (.string (txS n)) ∧ Only Nobody w w' := by
  have hm : (wrap64 ((n : Int) * (n : Int))).tmod 97 = ((n * n % 97 : Nat) : Int) := by
    have hb : n * n ≤ 60 * 60 := Nat.mul_le_mul hn hn
    have e : (n : Int) * (n : Int) = ((n * n : Nat) : Int) := by push_cast; rfl
    rw [e]
    have e2 : wrap64 ((n * n : Nat) : Int) = ((n * n : Nat) : Int) := by unfold wrap64; omega
    rw [e2]
    rfl
  obtain ⟨m, HM⟩ : ∃ m : Nat, Hid (n * n % 97 = m) := ⟨_, Lib.hid rfl⟩
  have HC : Hid (∀ w, Calls Tryd.prog 46 #[.int .i64 (m : Int)] w fun e w' => e = .returned (.string (decS m)) ∧ Only Nobody w w') := Lib.hid (fun w => decimal_nat m (by have := HM.out; omega) w)
  obtain ⟨s, HS⟩ : ∃ s, Hid (decS m = s) := ⟨_, Lib.hid rfl⟩
  rw [HS.out] at HC
  have hz : ¬ 9223372036854775807 < 1 + s.size := by rw [← HS.out]; have := decS_size (n := m) (by have := HM.out; omega); omega
  rw [HM.out] at hm
  have HTX : Hid (txS n = ⟨#[116]⟩ ++ s) := Lib.hid (by unfold txS; rw [HM.out, HS.out])
  go_enter Tryd.func17, Tryd.ntmps17
  go_wp2_with fail
  refine (HC.out _).mono ?_
  rintro e w1 ⟨rfl, ho1⟩
  have HO1 := Lib.hid ho1
  clear ho1
  go_wp2_with fail
  go_ret
  exact ⟨by rw [HTX.out]; rfl, HO1.out⟩

/-! The network's state against the numbers of a link. -/
structure St (S : NetS) (T use len : Nat) (cut : Bool) : Prop where
  now : S.now = T
  use : S.use = use
  len : S.script.length = len
  cut : S.cutB plA plB = cut
theorem byte_end {S : NetS} (h : S.use = S.script.length) : S.byte = 0 := by
  unfold Nw.NetS.byte
  rw [h, List.getD_eq_getElem?_getD, List.getElem?_eq_none (Nat.le_refl _)]
  rfl
theorem nw_of {S : NetS} {T use len : Nat} {cut : Bool} (h : St S T use len cut) {a b c : ByteArray} (hc : S.cutB a b = cut) : NwOf T use len cut b c (Nw.newP S a b c (S.copies a b) (S.copies a b).length) := by
  have hall : ∀ p ∈ Nw.newP S a b c (S.copies a b) (S.copies a b).length, p.to_ = b ∧ p.da = c ∧ ∃ i, i < (S.copies a b).length ∧ p.at_ = S.now + (S.copies a b).getD i 0 := by
    intro p hp
    unfold Nw.newP at hp
    obtain ⟨i, hi, rfl⟩ := List.mem_map.1 hp
    exact ⟨rfl, rfl, i, List.mem_range.1 hi, rfl⟩
  have hone : use = len → cut = false → S.copies a b = [1] := fun h1 h2 => by
    rw [Nw.copies_open (by rw [hc]; exact h2), byte_end (by rw [h.use, h.len]; exact h1)]
    decide +kernel
  refine ⟨?_, fun p hp => ⟨(hall p hp).1, (hall p hp).2.1⟩, ?_, ?_⟩
  · have := Nw.copies_le S a b
    unfold Nw.newP
    rw [List.length_map, List.length_range]
    exact this
  · intro h1 p hp
    obtain ⟨_, _, i, hi, e⟩ := hall p hp
    cases hcut : cut with
    | true => rw [Nw.copies_cut (by rw [hc]; exact hcut)] at hi; simp at hi
    | false =>
      rw [hone h1 hcut] at hi e
      have hi0 : i = 0 := by simpa using hi
      subst hi0
      rw [e, h.now]
      rfl
  · intro h1 h2
    have hcp := hone h1 h2
    refine ⟨⟨S.now + (S.copies a b).getD 0 0, S.sent, 0, a, b, c⟩, ?_, ?_⟩
    · unfold Nw.newP
      exact List.mem_map.2 ⟨0, List.mem_range.2 (by rw [hcp]; simp), rfl⟩
    · show S.now + (S.copies a b).getD 0 0 = (T : Int) + 1
      rw [hcp, h.now]
      rfl
theorem cutB_comm (S : NetS) (a b : ByteArray) : S.cutB a b = S.cutB b a := by
  unfold Nw.NetS.cutB
  rw [Nw.linkS_comm]
theorem sent_ok {S : NetS} {P : List Nw.Pc} {n T use len : Nat} {cut : Bool} (hg : Nw.Good S P n) (h : St S T use len cut) {a b c : ByteArray} (hab : (a = plA ∧ b = plB) ∨ (a = plB ∧ b = plA)) (hP : P.length ≤ 4000) (hc : c.size ≤ 1048576) :
    ∃ S' Q, netSendAll S a b c = (0, S') ∧ Nw.Good S' (P ++ Q) (n + 1) ∧ St S' T (min (use + 1) len) len cut ∧ NwOf T use len cut b c Q := by
  have hcut : S.cutB a b = cut := by
    rcases hab with ⟨rfl, rfl⟩ | ⟨rfl, rfl⟩
    · exact h.cut
    · rw [cutB_comm]; exact h.cut
  have hp : (Nw.placeB a && Nw.placeB b) = true := by rcases hab with ⟨rfl, rfl⟩ | ⟨rfl, rfl⟩ <;> decide +kernel
  have hl : P.length + (S.copies a b).length ≤ 4096 := by have := Nw.copies_le S a b; omega
  refine ⟨_, _, Nw.send_ok hg hp hc hl, Nw.good_ok hg a b c hl, ⟨?_, ?_, ?_, ?_⟩, nw_of h hcut⟩
  · rw [Nw.ok_now]; exact h.now
  · rw [Nw.ok_use, h.use, h.len]
  · rw [Nw.ok_script]; exact h.len
  · rw [Nw.cutB_ok]; exact h.cut
theorem tick_ok {S : NetS} {P : List Nw.Pc} {n T use len : Nat} {cut : Bool} (hg : Nw.Good S P n) (h : St S T use len cut) : Nw.Good { S with now := S.now + 1 } P (n + 1) ∧ St { S with now := S.now + 1 } (T + 1) use len cut :=
  ⟨Nw.good_step hg, ⟨by show S.now + 1 = T + 1; rw [h.now], h.use, h.len, h.cut⟩⟩
theorem take_perm {S : NetS} {P : List Nw.Pc} (R : Nw.Rel S P) (s : ByteArray) : (netTake S s).Perm (Nw.arrP P S.now s) := by
  have hf : ((S.qs s).filter fun c : Nw.Cp => decide (c.at_ ≤ (S.now : Int))).Perm (Nw.arrP P S.now s) := (R.perm s).filter _
  unfold netTake
  split
  · obtain ⟨h1, _, h2, h3, _⟩ := Nw.takeL_spec S.now ((S.qs s).length + 1) (S.qs s) (Nat.lt_succ_self _) (R.heap s)
    refine List.Perm.trans ?_ hf
    have h4 := h1.filter fun c : Nw.Cp => decide (c.at_ ≤ (S.now : Int))
    rw [List.filter_append, List.filter_eq_self.2 (fun c hc => decide_eq_true (h2 c hc)), List.filter_eq_nil_iff.2 (fun c hc => by have := h3 c hc; simp; omega), List.append_nil] at h4
    exact h4
  · rename_i hk
    rw [R.rest s hk] at hf
    exact hf
theorem left_ok {S : NetS} {P : List Nw.Pc} {n T use len : Nat} {cut : Bool} (hg : Nw.Good S P n) (h : St S T use len cut) (s : ByteArray) : (netTake S s).Perm (Nw.arrP P ((T : Nat) : Int) s) ∧ Nw.Good (netLeft S s) (Nw.leftP P ((T : Nat) : Int) s) n ∧ St (netLeft S s) T use len cut := by
  rw [← h.now]
  refine ⟨take_perm hg.rel s, Nw.good_left hg s, ⟨?_, ?_, ?_, ?_⟩⟩
  · rw [Nw.left_now]
  · rw [Nw.left_use]; exact h.use
  · rw [Nw.left_script]; exact h.len
  · show (netLeft S s).cut _ _ = cut
    rw [Nw.left_cut]; exact h.cut
theorem it_at {w : World} {b q c : Nat} {A : Option Addr} {l : List It} (hl : l.length = q) (h : w.ownsRow b 36 2 (.slice A q c) q (itsC l)) (hq : 0 < q) :
    ∃ g, A = some ⟨g, 0, none⟩ ∧ b ≤ g ∧ g < w.heap.size ∧ q ≤ c ∧ ∀ j x, l[j]? = some x → w.cell? ⟨g, j * 2, none⟩ = some (.int .i64 x.n) ∧ w.cell? ⟨g, j * 2 + 1, none⟩ = some (.string x.t) := by
  subst hl
  obtain ⟨g, cap, hv, hb, hg⟩ := h.form hq
  have h2 := h.2
  injection hv with h1
  subst h1
  have hc := h.cells (g := g) rfl
  refine ⟨g, rfl, hb, hg, ?_, fun j x hx => ?_⟩
  · rcases h2 with ⟨h3, h4⟩ | ⟨g', cap', cur, h3, _, _, hnc, _⟩
    · omega
    · injection h3 with _ _ h5
      omega
  · have c0 := hc (j * 2 + 0) _ (itsC_get l j 0 x hx (by omega))
    have c1 := hc (j * 2 + 1) _ (itsC_get l j 1 x hx (by omega))
    rw [Nw.addr0] at c0 c1
    exact ⟨c0, c1⟩
theorem pks_get : ∀ (l : List Nw.Cp) (i t : Nat) (y : Nw.Cp), l[i]? = some y → t < 2 → (pksOf l)[i * 2 + t]? = (Nw.pkCells y)[t]?
  | [], i, t, y, h, _ => by simp at h
  | z :: l, 0, t, y, h, ht => by
    simp only [List.getElem?_cons_zero, Option.some.injEq] at h
    subst h
    have e : pksOf (z :: l) = Nw.pkCells z ++ pksOf l := rfl
    rw [e, Nat.zero_mul, Nat.zero_add, List.getElem?_append_left (by show t < 2; exact ht)]
  | z :: l, i + 1, t, y, h, ht => by
    have e : pksOf (z :: l) = Nw.pkCells z ++ pksOf l := rfl
    have hl : (Nw.pkCells z).length = 2 := rfl
    rw [e, List.getElem?_append_right (by rw [hl]; omega), hl, show (i + 1) * 2 + t - 2 = i * 2 + t by omega]
    exact pks_get l i t y (by simpa using h) ht
theorem pk_at {w : World} {b q c : Nat} {A : Option Addr} {l : List Nw.Cp} (hl : l.length = q) (h : w.ownsRow b 113 2 (.slice A q c) q (pksOf l)) (hq : 0 < q) :
    ∃ g, A = some ⟨g, 0, none⟩ ∧ b ≤ g ∧ g < w.heap.size ∧ q ≤ c ∧ ∀ j x, l[j]? = some x → w.cell? ⟨g, j * 2, none⟩ = some (.string x.fr) ∧ w.cell? ⟨g, j * 2 + 1, none⟩ = some (.string x.da) := by
  subst hl
  obtain ⟨g, cap, hv, hb, hg⟩ := h.form hq
  have h2 := h.2
  injection hv with h1
  subst h1
  have hc := h.cells (g := g) rfl
  refine ⟨g, rfl, hb, hg, ?_, fun j x hx => ?_⟩
  · rcases h2 with ⟨h3, h4⟩ | ⟨g', cap', cur, h3, _, _, hnc, _⟩
    · omega
    · injection h3 with _ _ h5
      omega
  · have c0 := hc (j * 2 + 0) _ (pks_get l j 0 x hx (by omega))
    have c1 := hc (j * 2 + 1) _ (pks_get l j 1 x hx (by omega))
    rw [Nw.addr0] at c0 c1
    exact ⟨c0, c1⟩
/-- A link between two steps, in memory. -/
def Lw (w0 w : World) (Z : Nat → Prop) (N X O I K n : Nat) (s : Ls) (G : List It) : Prop := ∃ (S : NetS) (IS : InS), LQ w0 w Z N S X O I s.O IS G ∧ Nw.Good S s.P n ∧ St S s.T s.use s.len s.cut ∧ InR IS s.m ∧ Lk K txS eDs eAs s G
theorem small_of {S : NetS} {P : List Nw.Pc} {n : Nat} (h : Nw.Good S P n) (hn : n ≤ 100000) : Small S := h.small hn
theorem enc_D {n : Nat} (h1 : 1 ≤ n) (h2 : n ≤ 60) : (eDs n).size ≤ 100000 := enc_size (err_D h1 h2)
theorem enc_A {n : Nat} (h2 : n ≤ 60) : (eAs n).size ≤ 100000 := enc_size (err_A h2)
theorem enc_D_call {n : Nat} (h1 : 1 ≤ n) (h2 : n ≤ 60) (w : World) (ht : CalTab w) : Calls Tryd.prog 22 #[.agg #[.int .i64 1, .string ⟨#[113]⟩, .int .i64 (n : Int), .string (txS n)]] w fun e w' => e = .returned (.tuple #[.string (eDs n), .int .i64 0]) ∧ Only Nobody w w' := by
  have := encode_any (pD n) w ht (by show -9223372036854775808 ≤ (n : Int) ∧ (n : Int) ≤ 9223372036854775807; omega)
  rw [err_D h1 h2] at this
  exact this
theorem enc_A_call {n : Nat} (h2 : n ≤ 60) (w : World) (ht : CalTab w) : Calls Tryd.prog 22 #[.agg #[.int .i64 2, .string ⟨#[113]⟩, .int .i64 (n : Int), .string ⟨#[]⟩]] w fun e w' => e = .returned (.tuple #[.string (eAs n), .int .i64 0]) ∧ Only Nobody w w' := by
  have := encode_any (pA n) w ht (by show -9223372036854775808 ≤ (n : Int) ∧ (n : Int) ≤ 9223372036854775807; omega)
  rw [err_A h2] at this
  exact this
theorem dec_call {p : Pkt} (h : pErr p = 0) (w : World) (hs : Std w) : Calls Tryd.prog 37 #[.string (pEnc p)] w fun e w' => e = .returned (.tuple #[.agg #[.int .i64 p.kind, .string p.name, .int .i64 p.num, .string p.text], .int .i64 0]) ∧ Only Nobody w w' := by
  refine (decode_any (pEnc p) (enc_size h) w hs).mono ?_
  rintro e w' ⟨h1 | h1, ho⟩
  · rw [(dec_enc p h).1] at h1
    exact ⟨h1.2, ho⟩
  · exact absurd (decOk_enc p h) h1.1
theorem dec_D_call {n : Nat} (h1 : 1 ≤ n) (h2 : n ≤ 60) (w : World) (hs : Std w) : Calls Tryd.prog 37 #[.string (eDs n)] w fun e w' => e = .returned (.tuple #[.agg #[.int .i64 1, .string ⟨#[113]⟩, .int .i64 (n : Int), .string (txS n)], .int .i64 0]) ∧ Only Nobody w w' := dec_call (err_D h1 h2) w hs
theorem dec_A_call {n : Nat} (h2 : n ≤ 60) (w : World) (hs : Std w) : Calls Tryd.prog 37 #[.string (eAs n)] w fun e w' => e = .returned (.tuple #[.agg #[.int .i64 2, .string ⟨#[113]⟩, .int .i64 (n : Int), .string ⟨#[]⟩], .int .i64 0]) ∧ Only Nobody w w' := dec_call (err_A h2) w hs
def takenW (w : World) (I : Nat) : Nat := match w.cell? ⟨I, 0, none⟩ with | some (.int _ n) => n.toNat | _ => 0
theorem takenW_at {w : World} {I : Nat} {IS : InS} (h : InAt w I IS) : takenW w I = IS.taken := by
  unfold takenW
  rw [h.c0]
  rfl
theorem LQ.takenW {w0 w : World} {Z : Nat → Prop} {N X O I : Nat} {S : NetS} {OS : OutS} {IS : InS} {G : List It} (h : LQ w0 w Z N S X O I OS IS G) : takenW w I = IS.taken := by
  obtain ⟨F, vO, vG, h⟩ := h
  exact takenW_at h.i
theorem LQ.more1 {w0 w w' : World} {Z : Nat → Prop} {N X O I D : Nat} {S : NetS} {OS : OutS} {IS : InS} {G : List It} (h : LQ w0 w Z N S X O I OS IS G) (ho : Only Nobody w w') (hD : w.heap.size ≤ D ∧ D < w'.heap.size) : LQ w0 w' (fun k => Z k ∨ k = D) N S X O I OS IS G :=
  h.more ho (fun k hk => hk.elim .inl (fun e => .inr (by rw [e]; exact hD)))
end Go.Proofs.YthmndclmecnpmaaDoor
