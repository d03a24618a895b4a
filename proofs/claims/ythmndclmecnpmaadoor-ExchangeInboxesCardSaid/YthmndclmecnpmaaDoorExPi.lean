/- Exchange: an inbox and its model side by side; the contracts of their operations. -/
import Derived.Test.YthmndclmecnpmaaDoorMiC
import Derived.Test.YthmndclmecnpmaaDoorExOps
namespace Go.Proofs.YthmndclmecnpmaaDoor
open Go.RowKit

/-- An inbox at I and the model of one at M, apart; the blocks in Z are neither's. -/
structure Pi (w wx : World) (Z : Nat → Prop) (I : Nat) (S : InS) (M : Nat) (m : MIn) (v : Value) : Prop where
  i : InAt wx I S
  m : MiAt wx M m v
  ownI : w.heap.size ≤ I
  own : ∀ k, OwnO M v k → w.heap.size ≤ k
  sep : ¬ OwnO M v I
  z : ∀ k, Z k → k < wx.heap.size ∧ k ≠ I ∧ ¬ OwnO M v k
  only : Only Nobody w wx
variable {w wx w2 : World} {Z : Nat → Prop} {I M : Nat} {S S2 : InS} {m m2 : MIn} {v v2 : Value}
theorem Pi.same (h : Pi w wx Z I S M m v) (ho : Only Nobody wx w2) : Pi w w2 Z I S M m v :=
  ⟨blk_same h.i ho, h.m.same ho, h.ownI, h.own, h.sep, fun k hk => ⟨Nat.lt_of_lt_of_le (h.z k hk).1 ho.size, (h.z k hk).2⟩, h.only.trans ho⟩
theorem Pi.less (h : Pi w wx Z I S M m v) {Z' : Nat → Prop} (hz : ∀ k, Z' k → Z k) : Pi w wx Z' I S M m v := ⟨h.i, h.m, h.ownI, h.own, h.sep, fun k hk => h.z k (hz k hk), h.only⟩
theorem Pi.lt (h : Pi w wx Z I S M m v) {k : Nat} (hk : k = I ∨ OwnO M v k) : k < wx.heap.size := by
  rcases hk with rfl | hk
  · exact h.i.lt
  · exact h.m.lt k hk
theorem Pi.more (h : Pi w wx Z I S M m v) {Z' : Nat → Prop} {B : Nat} (hB : ∀ k, k = I ∨ OwnO M v k → k < B) (ho : Only Nobody wx w2) (hz : ∀ k, Z' k → Z k ∨ (B ≤ k ∧ k < w2.heap.size)) : Pi w w2 Z' I S M m v := by
  have h2 := h.same ho
  refine ⟨h2.i, h2.m, h2.ownI, h2.own, h2.sep, fun k hk => ?_, h2.only⟩
  rcases hz k hk with e | ⟨e1, e2⟩
  · exact h2.z k e
  · exact ⟨e2, fun e => by have := hB k (.inl e); omega, fun e => by have := hB k (.inr e); omega⟩
theorem Pi.off (h : Pi w wx Z I S M m v) (hb : ∀ k, Z k → w.heap.size ≤ k) (ho : Only Z wx w2) : Pi w w2 Z I S M m v :=
  ⟨blk_only h.i ho (fun hz => (h.z I hz).2.1 rfl), h.m.keep ho (fun k hk hz => (h.z k hz).2.2 hk), h.ownI, h.own, h.sep, fun k hk => ⟨Nat.lt_of_lt_of_le (h.z k hk).1 ho.size, (h.z k hk).2⟩, h.only.trans_more (ho.mono (fun k hk => .inr (hb k hk)))⟩
theorem Pi.step_i (h : Pi w wx Z I S M m v) (h2 : InAt w2 I S2) (ho : Only (· = I) wx w2) : Pi w w2 Z I S2 M m v ∧ Only (fun k => ¬ Z k) wx w2 := by
  refine ⟨⟨h2, h.m.keep ho (fun k hk x => h.sep (x ▸ hk)), h.ownI, h.own, h.sep, fun k hk => ⟨Nat.lt_of_lt_of_le (h.z k hk).1 ho.size, (h.z k hk).2⟩, ?_⟩, ho.mono (fun k hk hz => (h.z k hz).2.1 hk)⟩
  exact h.only.trans_more (ho.mono (fun k hk => .inr (by rw [hk]; exact h.ownI)))
theorem Pi.step_m (h : Pi w wx Z I S M m v) (h2 : MiAt w2 M m2 v2) (ho : Only (OwnO M v) wx w2) (hn : NewOr v v2 wx) : Pi w w2 Z I S M m2 v2 ∧ Only (fun k => ¬ Z k) wx w2 := by
  have hnew : ∀ k, OwnO M v2 k → OwnO M v k ∨ wx.heap.size ≤ k := by
    intro k hk
    rcases hk with e | e
    · exact .inl (.inl e)
    · exact (hn k e).elim (fun x => .inl (.inr x)) .inr
  refine ⟨⟨blk_only h.i ho h.sep, h2, h.ownI, ?_, ?_, ?_, ?_⟩, ho.mono (fun k hk hz => (h.z k hz).2.2 hk)⟩
  · intro k hk
    rcases hnew k hk with e | e
    · exact h.own k e
    · exact Nat.le_trans h.only.size e
  · intro hk
    rcases hnew I hk with e | e
    · exact h.sep e
    · have := h.i.lt; omega
  · intro k hk
    obtain ⟨h1, h3, h4⟩ := h.z k hk
    refine ⟨Nat.lt_of_lt_of_le h1 ho.size, h3, fun hk => ?_⟩
    rcases hnew k hk with e | e
    · exact h4 e
    · omega
  · exact h.only.trans_more (ho.mono (fun k hk => .inr (h.own k hk)))

theorem receive_pi (x : It) (h : Pi w wx Z I S M m v) (ht : S.taken ≤ 2000000000000) (hh : S.held ≤ 1000) : Calls Tryd.prog 18 #[.pointer (some ⟨I, 0, none⟩), .agg #[.int .i64 x.n, .string x.t]] wx fun e w2 => e = .returned (.int .i64 (recvI S x).1) ∧ Pi w w2 Z I (recvI S x).2 M m v ∧ Only (fun k => ¬ Z k) wx w2 :=
  (receive_in I S x wx h.i ht hh).mono fun _ _ ⟨he, h1, h2⟩ => ⟨he, h.step_i h1 h2⟩
theorem mreceive_pi (x : It) (h : Pi w wx Z I S M m v) (ha : m.taken ≤ 2000000000000) (hl : m.l.length ≤ 5000) : Calls Tryd.prog 19 #[.pointer (some ⟨M, 0, none⟩), .agg #[.int .i64 x.n, .string x.t]] wx fun e w2 => e = .returned (.int .i64 (recvM m x).1) ∧ ∃ v2, Pi w w2 Z I S M (recvM m x).2 v2 ∧ Only (fun k => ¬ Z k) wx w2 :=
  (receive_mi M m v x wx h.m ha hl).mono fun _ _ ⟨he, v', h1, h2, h3⟩ => ⟨he, v', h.step_m h1 h2 h3⟩
theorem next_pi (h : Pi w wx Z I S M m v) (ht : S.taken ≤ 2000000000000) : Calls Tryd.prog 14 #[.pointer (some ⟨I, 0, none⟩)] wx fun e w2 => e = .returned (NextV S) ∧ Pi w w2 Z I S M m v ∧ Only Nobody wx w2 :=
  (next_in I S wx h.i ht).mono fun _ _ ⟨he, ho⟩ => ⟨he, h.same ho, ho⟩

/-- An item's value and whether there is one, as Take returns them. -/
def TakeV (o : Option It) : Value := match o with
  | none => .tuple #[.agg #[.int .i64 0, .string ⟨#[]⟩], .int .i64 8]
  | some x => .tuple #[.agg #[.int .i64 x.n, .string x.t], .int .i64 0]
def afterI (S : InS) : InS := match nextI S with
  | none => S
  | some _ => tookI S
theorem take_pi (h : Pi w wx Z I S M m v) (ht : S.taken ≤ 2000000000000) (hh : ∀ x, nextI S = some x → 1 ≤ S.held) (hh2 : S.held ≤ 1000) : Calls Tryd.prog 15 #[.pointer (some ⟨I, 0, none⟩)] wx fun e w2 => e = .returned (TakeV (nextI S)) ∧ Pi w w2 Z I (afterI S) M m v ∧ Only (fun k => ¬ Z k) wx w2 :=
  (take_in I S wx h.i ht hh hh2).mono fun _ _ hp => by
    unfold TakePost at hp
    unfold TakeV afterI
    cases hn : nextI S with
    | none =>
      rw [hn] at hp
      exact ⟨hp.1, h.same hp.2, hp.2.mono (fun _ x => x.elim)⟩
    | some x =>
      rw [hn] at hp
      exact ⟨hp.1, h.step_i hp.2.1 hp.2.2⟩
theorem mtake_pi (h : Pi w wx Z I S M m v) (ha : m.taken ≤ 2000000000000) (hl : m.l.length ≤ 5000) (hnn : (takeM m).1 = none → (takeM m).2 = m) : Calls Tryd.prog 16 #[.pointer (some ⟨M, 0, none⟩)] wx fun e w2 => e = .returned (TakeV (takeM m).1) ∧ ∃ v2, Pi w w2 Z I S M (takeM m).2 v2 ∧ Only (fun k => ¬ Z k) wx w2 :=
  (take_mi M m v wx h.m ha hl).mono fun _ _ hp => by
    unfold MTakePost at hp
    unfold TakeV
    cases hn : (takeM m).1 with
    | none =>
      rw [hn] at hp
      rw [hnn hn]
      exact ⟨hp.1, v, h.same hp.2, hp.2.mono (fun _ x => x.elim)⟩
    | some x =>
      rw [hn] at hp
      obtain ⟨h0, v2, h1, h2, h3⟩ := hp
      exact ⟨h0, v2, h.step_m h1 h2 h3⟩

theorem inR_after {S : InS} {m : MIn} (h : InR S m) : InR (afterI S) (takeM m).2 := by
  obtain ⟨h1, h2, h3, _⟩ := inR_take h
  unfold afterI
  rw [h1]
  cases hn : (takeM m).1 with
  | none => rw [h3 hn]; exact h
  | some x => exact h2 (by rw [hn]; rfl)
theorem takeM_taken (m : MIn) : (takeM m).2.taken ≤ m.taken + 1 := by
  unfold takeM
  cases m.idx ((m.taken : Int) + 1) <;> simp
theorem recvM_taken (m : MIn) (x : It) : (recvM m x).2.taken = m.taken := by
  unfold recvM
  repeat' split
  all_goals rfl
end Go.Proofs.YthmndclmecnpmaaDoor
