/- Exchange: an outbox and its model side by side; the contracts of their operations. -/
import Derived.Test.YthmndclmecnpmaaDoorMoD
import Derived.Test.YthmndclmecnpmaaDoorExOps
namespace Go.Proofs.YthmndclmecnpmaaDoor
open Go.RowKit

/-- An outbox at O and the model of one at M, apart; the blocks in Z are neither's. -/
structure Pr (w wx : World) (Z : Nat → Prop) (O : Nat) (So : OutS) (v : Value) (M : Nat) (Sm : OutS) (vm : Value) : Prop where
  o : OutAt wx O So v
  m : MoAt wx M Sm vm
  own : ∀ k, OwnO O v k ∨ OwnO M vm k → w.heap.size ≤ k
  sep : ∀ k, OwnO O v k → ¬ OwnO M vm k
  z : ∀ k, Z k → k < wx.heap.size ∧ ¬ OwnO O v k ∧ ¬ OwnO M vm k
  only : Only Nobody w wx
variable {w wx w2 : World} {Z : Nat → Prop} {O M : Nat} {So Sm S2 : OutS} {v vm v2 : Value}
theorem Pr.same (h : Pr w wx Z O So v M Sm vm) (ho : Only Nobody wx w2) : Pr w w2 Z O So v M Sm vm :=
  ⟨h.o.same ho, h.m.same ho, h.own, h.sep, fun k hk => ⟨Nat.lt_of_lt_of_le (h.z k hk).1 ho.size, (h.z k hk).2⟩, h.only.trans ho⟩
theorem Pr.less (h : Pr w wx Z O So v M Sm vm) {Z' : Nat → Prop} (hz : ∀ k, Z' k → Z k) : Pr w wx Z' O So v M Sm vm := ⟨h.o, h.m, h.own, h.sep, fun k hk => h.z k (hz k hk), h.only⟩
theorem Pr.more (h : Pr w wx Z O So v M Sm vm) {Z' : Nat → Prop} {b : Nat} (hb : b < wx.heap.size) (hO : ∀ k, OwnO O v k ∨ OwnO M vm k → k ≠ b) (hz : ∀ k, Z' k → Z k ∨ k = b) : Pr w wx Z' O So v M Sm vm :=
  ⟨h.o, h.m, h.own, h.sep, fun k hk => (hz k hk).elim (h.z k) (fun e => by subst e; exact ⟨hb, fun x => hO _ (.inl x) rfl, fun x => hO _ (.inr x) rfl⟩), h.only⟩
theorem Pr.off (h : Pr w wx Z O So v M Sm vm) (hb : ∀ k, Z k → w.heap.size ≤ k) (ho : Only Z wx w2) : Pr w w2 Z O So v M Sm vm :=
  ⟨h.o.keep ho (fun k hk hz => (h.z k hz).2.1 hk), h.m.keep ho (fun k hk hz => (h.z k hz).2.2 hk), h.own, h.sep, fun k hk => ⟨Nat.lt_of_lt_of_le (h.z k hk).1 ho.size, (h.z k hk).2⟩, h.only.trans_more (ho.mono (fun k hk => .inr (hb k hk)))⟩
theorem own_new {v v2 : Value} (hn : NewOr v v2 wx) {k : Nat} (hk : OwnO O v2 k) : OwnO O v k ∨ wx.heap.size ≤ k := by
  rcases hk with e | e
  · exact .inl (.inl e)
  · exact (hn k e).elim (fun x => .inl (.inr x)) .inr
theorem Pr.step_o (h : Pr w wx Z O So v M Sm vm) (h2 : OutAt w2 O S2 v2) (ho : Only (OwnO O v) wx w2) (hn : NewOr v v2 wx) : Pr w w2 Z O S2 v2 M Sm vm ∧ Only (fun k => ¬ Z k) wx w2 := by
  refine ⟨⟨h2, h.m.keep ho (fun k hk x => h.sep k x hk), ?_, ?_, ?_, ?_⟩, ho.mono (fun k hk hz => (h.z k hz).2.1 hk)⟩
  · intro k hk
    rcases hk with hk | hk
    · rcases own_new hn hk with e | e
      · exact h.own k (.inl e)
      · exact Nat.le_trans h.only.size e
    · exact h.own k (.inr hk)
  · intro k hk hm
    rcases own_new hn hk with e | e
    · exact h.sep k e hm
    · have := h.m.lt k hm; omega
  · intro k hk
    obtain ⟨h1, h3, h4⟩ := h.z k hk
    refine ⟨Nat.lt_of_lt_of_le h1 ho.size, fun hk => ?_, h4⟩
    rcases own_new hn hk with e | e
    · exact h3 e
    · omega
  · exact h.only.trans_more (ho.mono (fun k hk => .inr (h.own k (.inl hk))))
theorem Pr.step_m (h : Pr w wx Z O So v M Sm vm) (h2 : MoAt w2 M S2 v2) (ho : Only (OwnO M vm) wx w2) (hn : NewOr vm v2 wx) : Pr w w2 Z O So v M S2 v2 ∧ Only (fun k => ¬ Z k) wx w2 := by
  refine ⟨⟨h.o.keep ho (fun k hk x => h.sep k hk x), h2, ?_, ?_, ?_, ?_⟩, ho.mono (fun k hk hz => (h.z k hz).2.2 hk)⟩
  · intro k hk
    rcases hk with hk | hk
    · exact h.own k (.inl hk)
    · rcases own_new hn hk with e | e
      · exact h.own k (.inr e)
      · exact Nat.le_trans h.only.size e
  · intro k hk hm
    rcases own_new hn hm with e | e
    · exact h.sep k hk e
    · have := h.o.lt k hk; omega
  · intro k hk
    obtain ⟨h1, h3, h4⟩ := h.z k hk
    refine ⟨Nat.lt_of_lt_of_le h1 ho.size, h3, fun hk => ?_⟩
    rcases own_new hn hk with e | e
    · exact h4 e
    · omega
  · exact h.only.trans_more (ho.mono (fun k hk => .inr (h.own k (.inr hk))))
theorem newOr_of {v v' : Value} (h : v'.ownBlock = v.ownBlock ∨ ∃ g, v'.ownBlock = some g ∧ wx.heap.size ≤ g) : NewOr v v' wx := by
  intro k hk
  rcases h with e | ⟨g, e, hg⟩
  · exact .inl (by rw [← e]; exact hk)
  · rw [e] at hk
    injection hk with hk
    exact .inr (by omega)

theorem put_pr (x : It) (h : Pr w wx Z O So v M Sm vm) (ha : So.acked ≤ 2000000000000) (hl : So.l.length ≤ 5000) : Calls Tryd.prog 24 #[.pointer (some ⟨O, 0, none⟩), .agg #[.int .i64 x.n, .string x.t]] wx fun e w2 => e = .returned (.int .i64 (putO So x).1) ∧ ∃ v2, Pr w w2 Z O (putO So x).2 v2 M Sm vm ∧ Only (fun k => ¬ Z k) wx w2 :=
  (put_ox O So v x wx h.o ha hl).mono fun _ _ ⟨he, v', h1, h2, h3⟩ => ⟨he, v', h.step_o h1 h2 (newOr_of h3)⟩
theorem mput_pr (x : It) (h : Pr w wx Z O So v M Sm vm) (ha : Sm.acked ≤ 2000000000000) (hl : Sm.l.length ≤ 5000) : Calls Tryd.prog 28 #[.pointer (some ⟨M, 0, none⟩), .agg #[.int .i64 x.n, .string x.t]] wx fun e w2 => e = .returned (.int .i64 (putO Sm x).1) ∧ ∃ v2, Pr w w2 Z O So v M (putO Sm x).2 v2 ∧ Only (fun k => ¬ Z k) wx w2 :=
  (put_mo M Sm vm x wx h.m ha hl).mono fun _ _ ⟨he, v', h1, h2, h3⟩ => ⟨he, v', h.step_m h1 h2 (newOr_of h3)⟩
theorem ack_pr (n : Int) (h : Pr w wx Z O So v M Sm vm) (ha : So.acked ≤ 2000000000000) (hl : So.l.length ≤ 5000) : Calls Tryd.prog 26 #[.pointer (some ⟨O, 0, none⟩), .int .i64 n] wx fun e w2 => e = .returned (.int .i64 (ackO So n).1) ∧ ∃ v2, Pr w w2 Z O (ackO So n).2 v2 M Sm vm ∧ Only (fun k => ¬ Z k) wx w2 :=
  (ack_ox O So v n wx h.o ha hl).mono fun _ _ ⟨he, v', h1, h2, h3⟩ => ⟨he, v', h.step_o h1 (h2.mono (fun _ e => .inl e)) (fun k hk => .inl (by rw [← h3]; exact hk))⟩
theorem mack_pr (n : Int) (h : Pr w wx Z O So v M Sm vm) (ha : Sm.acked ≤ 2000000000000) (hl : Sm.l.length ≤ 5000) : Calls Tryd.prog 29 #[.pointer (some ⟨M, 0, none⟩), .int .i64 n] wx fun e w2 => e = .returned (.int .i64 (ackO Sm n).1) ∧ ∃ v2, Pr w w2 Z O So v M (ackO Sm n).2 v2 ∧ Only (fun k => ¬ Z k) wx w2 :=
  (ack_mo M Sm vm n wx h.m ha hl).mono fun _ _ ⟨he, v', h1, h2, h3⟩ => ⟨he, v', h.step_m h1 (h2.mono (fun _ e => .inl e)) h3⟩

/-- What Due returns, and leaves. -/
def dueR (S : OutS) (now iv : Int) : List It := dueTo now iv (min S.l.length 64) S.l
def dueS (S : OutS) (now iv : Int) : OutS := { S with l := markTo now iv (min S.l.length 64) S.l }
theorem due_pr (now iv : Int) (hn : -1000000 ≤ now ∧ now ≤ 1000000) (hi : -1000000 ≤ iv ∧ iv ≤ 1000000) (h : Pr w wx Z O So v M Sm vm) (hl : So.l.length ≤ 5000) : Calls Tryd.prog 25 #[.pointer (some ⟨O, 0, none⟩), .int .i64 now, .int .i64 iv] wx fun e w2 => ∃ vo, e = .returned vo ∧ w2.ownsRow wx.heap.size 36 2 vo (dueR So now iv).length (itsC (dueR So now iv)) ∧ Pr w w2 Z O (dueS So now iv) v M Sm vm ∧ Only (fun k => ¬ Z k) wx w2 :=
  (due_ox O So v now iv hn hi wx h.o hl).mono fun _ _ ⟨vo, he, h1, h2, h3⟩ => ⟨vo, he, h1, h.step_o h2 h3 (fun _ hk => .inl hk)⟩
theorem mdue_pr (now iv : Int) (hn : -1000000 ≤ now ∧ now ≤ 1000000) (hi : -1000000 ≤ iv ∧ iv ≤ 1000000) (h : Pr w wx Z O So v M Sm vm) (hl : Sm.l.length ≤ 5000) : Calls Tryd.prog 31 #[.pointer (some ⟨M, 0, none⟩), .int .i64 now, .int .i64 iv] wx fun e w2 => ∃ vo, e = .returned vo ∧ w2.ownsRow wx.heap.size 36 2 vo (dueR Sm now iv).length (itsC (dueR Sm now iv)) ∧ Pr w w2 Z O So v M (dueS Sm now iv) vm ∧ Only (fun k => ¬ Z k) wx w2 :=
  (due_mo M Sm vm now iv hn hi wx h.m hl).mono fun _ _ ⟨vo, he, h1, h2, h3⟩ => ⟨vo, he, h1, h.step_m h2 h3 (fun _ hk => .inl hk)⟩

theorem Pr.row_ {w1 : World} {base n size : Nat} {e : TypeId} {vo : Value} {xs : List Value} (h : Pr w w2 Z O So v M Sm vm) (hlt : ∀ k, OwnO O v k ∨ OwnO M vm k → k < w1.heap.size) (hr : w2.ownsRow base e size vo n xs) (hb : w1.heap.size ≤ base) : Pr w w2 (fun k => Z k ∨ vo.ownBlock = some k) O So v M Sm vm :=
  ⟨h.o, h.m, h.own, h.sep, fun k hk => hk.elim (h.z k) (fun e => by
    have h1 := hr.lt k e
    exact ⟨h1.2, fun x => by have := hlt k (.inl x); omega, fun x => by have := hlt k (.inr x); omega⟩), h.only⟩
theorem due_pr2 (now iv : Int) (hn : -1000000 ≤ now ∧ now ≤ 1000000) (hi : -1000000 ≤ iv ∧ iv ≤ 1000000) (h : Pr w wx Z O So v M Sm vm) (hl : So.l.length ≤ 5000) : Calls Tryd.prog 25 #[.pointer (some ⟨O, 0, none⟩), .int .i64 now, .int .i64 iv] wx fun e w2 => ∃ vo, e = .returned vo ∧ w2.ownsRow wx.heap.size 36 2 vo (dueR So now iv).length (itsC (dueR So now iv)) ∧ Pr w w2 (fun k => Z k ∨ vo.ownBlock = some k) O (dueS So now iv) v M Sm vm ∧ Only (fun k => ¬ Z k) wx w2 :=
  (due_pr now iv hn hi h hl).mono fun _ _ ⟨vo, he, h1, h2, h3⟩ => ⟨vo, he, h1, h2.row_ (w1 := wx) (fun k hk => hk.elim (h.o.lt k) (h.m.lt k)) h1 (Nat.le_refl _), h3⟩
theorem mdue_pr2 (now iv : Int) (hn : -1000000 ≤ now ∧ now ≤ 1000000) (hi : -1000000 ≤ iv ∧ iv ≤ 1000000) (h : Pr w wx Z O So v M Sm vm) (hl : Sm.l.length ≤ 5000) : Calls Tryd.prog 31 #[.pointer (some ⟨M, 0, none⟩), .int .i64 now, .int .i64 iv] wx fun e w2 => ∃ vo, e = .returned vo ∧ w2.ownsRow wx.heap.size 36 2 vo (dueR Sm now iv).length (itsC (dueR Sm now iv)) ∧ Pr w w2 (fun k => Z k ∨ vo.ownBlock = some k) O So v M (dueS Sm now iv) vm ∧ Only (fun k => ¬ Z k) wx w2 :=
  (mdue_pr now iv hn hi h hl).mono fun _ _ ⟨vo, he, h1, h2, h3⟩ => ⟨vo, he, h1, h2.row_ (w1 := wx) (fun k hk => hk.elim (h.o.lt k) (h.m.lt k)) h1 (Nat.le_refl _), h3⟩

/-! How far the numbers go. -/
def Fits (S : OutS) (a j : Nat) : Prop := S.l.length ≤ j ∧ S.acked + S.l.length ≤ a + j
theorem fits_put {S : OutS} {a j : Nat} (h : Fits S a j) (x : It) : Fits (putO S x).2 a (j + 1) := by
  obtain ⟨h1, h2⟩ := h
  unfold putO
  repeat' split
  all_goals first
    | exact ⟨by show S.l.length ≤ _; omega, by show S.acked + S.l.length ≤ _; omega⟩
    | exact ⟨by show (S.l ++ [_]).length ≤ _; rw [List.length_append, List.length_singleton]; omega, by show S.acked + (S.l ++ [_]).length ≤ _; rw [List.length_append, List.length_singleton]; omega⟩
theorem fits_ack {S : OutS} {a j : Nat} (h : Fits S a j) (n : Int) : Fits (ackO S n).2 a (j + 1) := by
  obtain ⟨h1, h2⟩ := h
  unfold ackO OutS.last
  split
  · exact ⟨by show S.l.length ≤ _; omega, by show S.acked + S.l.length ≤ _; omega⟩
  · split
    · exact ⟨by show S.l.length ≤ _; omega, by show S.acked + S.l.length ≤ _; omega⟩
    · rename_i h3 h4
      refine ⟨by show (S.l.drop _).length ≤ _; rw [List.length_drop]; omega, by show n.toNat + (S.l.drop _).length ≤ _; rw [List.length_drop]; omega⟩
theorem fits_due {S : OutS} {a j : Nat} (h : Fits S a j) (now iv : Int) : Fits (dueS S now iv) a (j + 1) := by
  obtain ⟨h1, h2⟩ := h
  exact ⟨by show (markTo _ _ _ _).length ≤ _; rw [markTo_len]; omega, by show S.acked + (markTo _ _ _ _).length ≤ _; rw [markTo_len]; omega⟩
theorem dueR_le (S : OutS) (now iv : Int) : (dueR S now iv).length ≤ 64 := Nat.le_trans (dueTo_le _ _ _ _) (Nat.min_le_right _ _)
end Go.Proofs.YthmndclmecnpmaaDoor
