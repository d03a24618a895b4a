/- Exchange: a link in memory: a network and the two sides; the contracts of their methods in it. -/
import Derived.Test.YthmndclmecnpmaaDoorLnP
import Derived.Test.YthmndclmecnpmaaDoorDecB
import Derived.Test.YthmndclmecnpmaaDoorMoA
namespace Go.Proofs.YthmndclmecnpmaaDoor
open Go.RowKit
open Nw (Net NetS netSendAll netTake netLeft pksOf Grows Small)
attribute [local go_sem ↓] Go.wp_at_zero Go.wp_at_succ

def NewOb (v v' : Value) (w : World) : Prop := ∀ k, v'.ownBlock = some k → v.ownBlock = some k ∨ w.heap.size ≤ k
theorem NewOb.refl (v : Value) (w : World) : NewOb v v w := fun _ h => .inl h
/-- The blocks of the two sides. -/
def OwnX (X O I : Nat) (vO vG : Value) (k : Nat) : Prop := k = X ∨ k = O ∨ vO.ownBlock = some k ∨ k = I ∨ vG.ownBlock = some k
structure Ln (w0 w : World) (Z F : Nat → Prop) (N : Nat) (S : NetS) (X O I : Nat) (OS : OutS) (IS : InS) (G : List It) (vO vG : Value) : Prop where
  n : Net w0 w F N S
  x : Blk w X 76 #[.pointer (some ⟨O, 0, none⟩), .pointer (some ⟨I, 0, none⟩), vG, .bool true]
  o : OutAt w O OS vO
  i : InAt w I IS
  g : w.ownsRow w0.heap.size 36 2 vG G.length (itsC G)
  xo : X ≠ O
  xi : X ≠ I
  oi : O ≠ I
  bo : ∀ k, vO.ownBlock = some k → k ≠ X ∧ k ≠ O ∧ k ≠ I
  bg : ∀ k, vG.ownBlock = some k → k ≠ X ∧ k ≠ O ∧ k ≠ I ∧ vO.ownBlock ≠ some k
  lo : ∀ k, OwnX X O I vO vG k → w0.heap.size ≤ k
  sep : ∀ k, F k → ¬ OwnX X O I vO vG k
  z : ∀ k, Z k → k < w.heap.size ∧ ¬ F k ∧ ¬ OwnX X O I vO vG k
/-- A link: a network in state S at N, its sender's outbox in state OS, its receiver's inbox in state IS, what was taken; the blocks in Z are none of theirs. -/
def LQ (w0 w : World) (Z : Nat → Prop) (N : Nat) (S : NetS) (X O I : Nat) (OS : OutS) (IS : InS) (G : List It) : Prop := ∃ F vO vG, Ln w0 w Z F N S X O I OS IS G vO vG
section
variable {w0 w w' : World} {Z F F' : Nat → Prop} {N X O I : Nat} {S S' : NetS} {OS OS' : OutS} {IS IS' : InS} {G G' : List It} {vO vG vO' vG' : Value}
theorem Ln.lt (h : Ln w0 w Z F N S X O I OS IS G vO vG) : ∀ k, OwnX X O I vO vG k → k < w.heap.size := by
  rintro k (rfl | rfl | e | rfl | e)
  · exact h.x.lt
  · exact h.o.lt _ (.inl rfl)
  · exact h.o.lt _ (.inr e)
  · exact Blk.lt h.i
  · exact (h.g.lt k e).2
theorem Ln.same (h : Ln w0 w Z F N S X O I OS IS G vO vG) (ho : Only Nobody w w') : Ln w0 w' Z F N S X O I OS IS G vO vG :=
  ⟨h.n.keep ho (fun _ x => x.elim) (fun _ _ x => x), ho.blk h.x (fun x => x), h.o.same ho, ho.blk h.i (fun x => x), ho.row h.g (fun _ _ x => x), h.xo, h.xi, h.oi, h.bo, h.bg, h.lo, h.sep, fun k hk => ⟨Nat.lt_of_lt_of_le (h.z k hk).1 ho.size, (h.z k hk).2⟩⟩
theorem LQ.same (h : LQ w0 w Z N S X O I OS IS G) (ho : Only Nobody w w') : LQ w0 w' Z N S X O I OS IS G := by
  obtain ⟨F, vO, vG, h⟩ := h
  exact ⟨F, vO, vG, h.same ho⟩
theorem LQ.less (h : LQ w0 w Z N S X O I OS IS G) {Z' : Nat → Prop} (hz : ∀ k, Z' k → Z k) : LQ w0 w Z' N S X O I OS IS G := by
  obtain ⟨F, vO, vG, h⟩ := h
  exact ⟨F, vO, vG, h.n, h.x, h.o, h.i, h.g, h.xo, h.xi, h.oi, h.bo, h.bg, h.lo, h.sep, fun k hk => h.z k (hz k hk)⟩
theorem LQ.bel (h : LQ w0 w Z N S X O I OS IS G) : Below w0.heap.size w0 w := by
  obtain ⟨F, vO, vG, h⟩ := h
  exact h.n.bel
/-- Blocks that are new since a world in which the link lay. -/
theorem LQ.more (h : LQ w0 w Z N S X O I OS IS G) {Z' : Nat → Prop} (ho : Only Nobody w w') (hz : ∀ k, Z' k → Z k ∨ (w.heap.size ≤ k ∧ k < w'.heap.size)) : LQ w0 w' Z' N S X O I OS IS G := by
  obtain ⟨F, vO, vG, h⟩ := h
  have h2 := h.same ho
  refine ⟨F, vO, vG, h2.n, h2.x, h2.o, h2.i, h2.g, h.xo, h.xi, h.oi, h.bo, h.bg, h.lo, h.sep, fun k hk => ?_⟩
  rcases hz k hk with e | ⟨e1, e2⟩
  · exact h2.z k e
  · exact ⟨e2, fun x => by have := h.n.bd k x; omega, fun x => by have := h.lt k x; omega⟩
/-- The network has turned. -/
theorem Ln.step_n (h : Ln w0 w Z F N S X O I OS IS G vO vG) (h2 : Net w0 w' F' N S') (ho : Only F w w') (hg : Grows F F' w) : Ln w0 w' Z F' N S' X O I OS IS G vO vG ∧ Only (fun k => ¬ Z k) w w' := by
  have hs : ∀ k, OwnX X O I vO vG k → ¬ F k := fun k hk hf => h.sep k hf hk
  refine ⟨⟨h2, ho.blk h.x (hs _ (.inl rfl)), h.o.keep ho (fun k hk => hs k (hk.elim (fun e => .inr (.inl e)) (fun e => .inr (.inr (.inl e))))), ho.blk h.i (hs _ (.inr (.inr (.inr (.inl rfl))))), ho.row h.g (fun k e => hs k (.inr (.inr (.inr (.inr e))))), h.xo, h.xi, h.oi, h.bo, h.bg, h.lo, fun k hk hm => h.sep k (hg k (h.lt k hm) hk) hm, fun k hk => ?_⟩, ho.mono (fun k hk hz => (h.z k hz).2.1 hk)⟩
  obtain ⟨h1, h3, h4⟩ := h.z k hk
  exact ⟨Nat.lt_of_lt_of_le h1 ho.size, fun x => h3 (hg k h1 x), h4⟩
/-- The sides have turned. -/
theorem Ln.turn (h : Ln w0 w Z F N S X O I OS IS G vO vG) (hx : Blk w' X 76 #[.pointer (some ⟨O, 0, none⟩), .pointer (some ⟨I, 0, none⟩), vG', .bool true]) (hO : OutAt w' O OS' vO') (hI : InAt w' I IS')
    (hG : w'.ownsRow w0.heap.size 36 2 vG' G'.length (itsC G')) (ho : Only (OwnX X O I vO vG) w w') (n1 : NewOb vO vO' w) (n2 : NewOb vG vG' w) (hv : vO' = vO ∨ vG' = vG) :
    Ln w0 w' Z F N S X O I OS' IS' G' vO' vG' ∧ Only (fun k => ¬ Z k) w w' := by
  have hX := h.lt X (.inl rfl)
  have hOl := h.lt O (.inr (.inl rfl))
  have hIl := h.lt I (.inr (.inr (.inr (.inl rfl))))
  have hnew : ∀ k, OwnX X O I vO' vG' k → OwnX X O I vO vG k ∨ w.heap.size ≤ k := by
    rintro k (e | e | e | e | e)
    · exact .inl (.inl e)
    · exact .inl (.inr (.inl e))
    · exact (n1 k e).elim (fun e => .inl (.inr (.inr (.inl e)))) .inr
    · exact .inl (.inr (.inr (.inr (.inl e))))
    · exact (n2 k e).elim (fun e => .inl (.inr (.inr (.inr (.inr e))))) .inr
  refine ⟨⟨h.n.keep ho (fun k hk => h.lo k hk) (fun b hb hm => h.sep b hb hm), hx, hO, hI, hG, h.xo, h.xi, h.oi, ?_, ?_, ?_, ?_, ?_⟩, ho.mono (fun k hk hz => (h.z k hz).2.2 hk)⟩
  · intro k e
    rcases n1 k e with e | e
    · exact h.bo k e
    · exact ⟨by omega, by omega, by omega⟩
  · intro k e
    rcases n2 k e with e2 | e2
    · obtain ⟨b1, b2, b3, b4⟩ := h.bg k e2
      refine ⟨b1, b2, b3, fun e3 => ?_⟩
      rcases n1 k e3 with e4 | e4
      · exact b4 e4
      · have := h.lt k (.inr (.inr (.inr (.inr e2)))); omega
    · refine ⟨by omega, by omega, by omega, fun e3 => ?_⟩
      rcases hv with rfl | rfl
      · have := h.lt k (.inr (.inr (.inl e3))); omega
      · have := h.lt k (.inr (.inr (.inr (.inr e)))); omega
  · intro k hk
    rcases hnew k hk with e | e
    · exact h.lo k e
    · exact Nat.le_trans h.n.bel.size e
  · intro k hk hm
    rcases hnew k hm with e | e
    · exact h.sep k hk e
    · have := h.n.bd k hk; omega
  · intro k hk
    obtain ⟨h1, h3, h4⟩ := h.z k hk
    refine ⟨Nat.lt_of_lt_of_le h1 ho.size, h3, fun x => ?_⟩
    rcases hnew k x with e | e
    · exact h4 e
    · omega
theorem Ln.step_o (h : Ln w0 w Z F N S X O I OS IS G vO vG) (h2 : OutAt w' O OS' vO') (ho : Only (OwnO O vO) w w') (hn : NewOb vO vO' w) : Ln w0 w' Z F N S X O I OS' IS G vO' vG ∧ Only (fun k => ¬ Z k) w w' := by
  have hs : ∀ k, OwnO O vO k → OwnX X O I vO vG k := fun k hk => hk.elim (fun e => .inr (.inl e)) (fun e => .inr (.inr (.inl e)))
  refine h.turn (ho.blk h.x ?_) h2 (ho.blk h.i ?_) (ho.row h.g ?_) (ho.mono hs) hn (NewOb.refl _ _) (.inr rfl)
  · rintro (e | e)
    · exact h.xo e
    · exact (h.bo _ e).1 rfl
  · rintro (e | e)
    · exact h.oi e.symm
    · exact (h.bo _ e).2.2 rfl
  · rintro k e (e2 | e2)
    · exact (h.bg k e).2.1 e2
    · exact (h.bg k e).2.2.2 e2
theorem Ln.step_i (h : Ln w0 w Z F N S X O I OS IS G vO vG) (h2 : InAt w' I IS') (ho : Only (· = I) w w') : Ln w0 w' Z F N S X O I OS IS' G vO vG ∧ Only (fun k => ¬ Z k) w w' := by
  refine h.turn (ho.blk h.x h.xi) (h.o.keep ho ?_) h2 (ho.row h.g (fun k e e2 => (h.bg k e).2.2.1 e2)) (ho.mono (fun k e => .inr (.inr (.inr (.inl e))))) (NewOb.refl _ _) (NewOb.refl _ _) (.inl rfl)
  rintro k (e | e) e2
  · exact h.oi (e.symm.trans e2)
  · exact (h.bo k e).2.2 e2
/-- What was taken has got an item, or the side's own cells were written again. -/
theorem Ln.step_g (h : Ln w0 w Z F N S X O I OS IS G vO vG) (hx : Blk w' X 76 #[.pointer (some ⟨O, 0, none⟩), .pointer (some ⟨I, 0, none⟩), vG', .bool true]) (hG : w'.ownsRow w0.heap.size 36 2 vG' G'.length (itsC G')) (ho : Only (fun k => k = X ∨ vG.ownBlock = some k) w w') (hn : NewOb vG vG' w) :
    Ln w0 w' Z F N S X O I OS IS G' vO vG' ∧ Only (fun k => ¬ Z k) w w' := by
  refine h.turn hx (h.o.keep ho ?_) (ho.blk h.i ?_) hG (ho.mono (fun k e => e.elim .inl (fun e => .inr (.inr (.inr (.inr e)))))) (NewOb.refl _ _) hn (.inl rfl)
  · rintro k (e | e) (e2 | e2)
    · exact h.xo (e2.symm.trans e)
    · exact (h.bg k e2).2.1 e
    · exact (h.bo k e).1 e2
    · exact (h.bg k e2).2.2.2 e
  · rintro (e | e)
    · exact h.xi e.symm
    · exact (h.bg _ e).2.2.1 rfl
/-- A row in new blocks comes to those that are none of the link's. -/
theorem Ln.row_ (h : Ln w0 w' Z F N S X O I OS IS G vO vG) (hlt : ∀ k, F k ∨ OwnX X O I vO vG k → k < w.heap.size) {v : Value} {m : Nat} {t : TypeId} {sz : Nat} {xs : List Value} (hr : w'.ownsRow w.heap.size t sz v m xs) : LQ w0 w' (fun k => Z k ∨ v.ownBlock = some k) N S X O I OS IS G := by
  refine ⟨F, vO, vG, h.n, h.x, h.o, h.i, h.g, h.xo, h.xi, h.oi, h.bo, h.bg, h.lo, h.sep, fun k hk => ?_⟩
  rcases hk with hk | hk
  · exact h.z k hk
  · have h5 := hr.lt k hk
    exact ⟨h5.2, fun x => by have := hlt k (.inl x); omega, fun x => by have := hlt k (.inr x); omega⟩

/-! The methods. -/
theorem now_lq (h : LQ w0 w Z N S X O I OS IS G) : Calls Tryd.prog 53 #[.pointer (some ⟨N, 0, none⟩)] w fun e w' => e = .returned (.int .i64 S.now) ∧ w = w' := by
  obtain ⟨F, vO, vG, h⟩ := h
  exact Nw.now_at N F S w h.n.at_
theorem send_lq (a b c : ByteArray) (h : LQ w0 w Z N S X O I OS IS G) (hs : Small S) (hc : c.size ≤ maxLen) : Calls Tryd.prog 54 #[.pointer (some ⟨N, 0, none⟩), .string a, .string b, .string c] w fun e w' => e = .returned (.int .i64 (netSendAll S a b c).1) ∧ LQ w0 w' Z N (netSendAll S a b c).2 X O I OS IS G ∧ Only (fun k => ¬ Z k) w w' := by
  obtain ⟨F, vO, vG, h⟩ := h
  exact (Nw.send_net w0 w F N S a b c h.n hs hc).mono fun _ _ ⟨he, F', h1, h2, h3⟩ => ⟨he, ⟨F', vO, vG, (h.step_n h1 h2 h3).1⟩, (h.step_n h1 h2 h3).2⟩
theorem tick_lq (h : LQ w0 w Z N S X O I OS IS G) (hs : S.now ≤ 100000) : Calls Tryd.prog 55 #[.pointer (some ⟨N, 0, none⟩)] w fun e w' => e = .returned (.tuple #[]) ∧ LQ w0 w' Z N { S with now := S.now + 1 } X O I OS IS G ∧ Only (fun k => ¬ Z k) w w' := by
  obtain ⟨F, vO, vG, h⟩ := h
  exact (Nw.step_net w0 w F N S h.n hs).mono fun _ _ ⟨he, h1, h2⟩ => ⟨he, ⟨F, vO, vG, (h.step_n h1 h2 (Nw.Grows.refl _ _)).1⟩, (h.step_n h1 h2 (Nw.Grows.refl _ _)).2⟩
theorem recv_lq (a : ByteArray) (h : LQ w0 w Z N S X O I OS IS G) (hs : S.pend ≤ 4096) (ha : a.size ≤ maxLen) : Calls Tryd.prog 56 #[.pointer (some ⟨N, 0, none⟩), .string a] w fun e w' => ∃ v, e = .returned v ∧ w'.ownsRow w.heap.size 113 2 v (netTake S a).length (pksOf (netTake S a)) ∧ LQ w0 w' (fun k => Z k ∨ v.ownBlock = some k) N (netLeft S a) X O I OS IS G ∧ Only (fun k => ¬ Z k) w w' := by
  obtain ⟨F, vO, vG, h⟩ := h
  refine (Nw.receive_net w0 w F N S a h.n hs ha).mono fun _ w' ⟨v, he, hr, h1, h2⟩ => ⟨v, he, hr, ?_⟩
  obtain ⟨h3, h4⟩ := h.step_n h1 h2 (Nw.Grows.refl _ _)
  exact ⟨h3.row_ (fun k hk => hk.elim (h.n.bd k) (h.lt k)) hr, h4⟩
theorem cut_lq (a b : ByteArray) (h : LQ w0 w Z N S X O I OS IS G) (hs : S.ncut ≤ 100000) (ha : a.size ≤ maxLen) (hb : b.size ≤ maxLen) : Calls Tryd.prog 43 #[.pointer (some ⟨N, 0, none⟩), .string a, .string b] w fun e w' => e = .returned (.tuple #[]) ∧ LQ w0 w' Z N (S.link_ a b true 1) X O I OS IS G ∧ Only (fun k => ¬ Z k) w w' := by
  obtain ⟨F, vO, vG, h⟩ := h
  exact (Nw.cut_net w0 w F N S a b h.n hs ha hb).mono fun _ _ ⟨he, h1, h2⟩ => ⟨he, ⟨F, vO, vG, (h.step_n h1 h2 (Nw.Grows.refl _ _)).1⟩, (h.step_n h1 h2 (Nw.Grows.refl _ _)).2⟩
theorem join_lq (a b : ByteArray) (h : LQ w0 w Z N S X O I OS IS G) (ha : a.size ≤ maxLen) (hb : b.size ≤ maxLen) : Calls Tryd.prog 44 #[.pointer (some ⟨N, 0, none⟩), .string a, .string b] w fun e w' => e = .returned (.tuple #[]) ∧ LQ w0 w' Z N (S.link_ a b false 0) X O I OS IS G ∧ Only (fun k => ¬ Z k) w w' := by
  obtain ⟨F, vO, vG, h⟩ := h
  exact (Nw.join_net w0 w F N S a b h.n ha hb).mono fun _ _ ⟨he, h1, h2⟩ => ⟨he, ⟨F, vO, vG, (h.step_n h1 h2 (Nw.Grows.refl _ _)).1⟩, (h.step_n h1 h2 (Nw.Grows.refl _ _)).2⟩
theorem due_lq (T : Nat) (hT : T ≤ 1000000) (h : LQ w0 w Z N S X O I OS IS G) (hl : OS.l.length ≤ 5000) : Calls Tryd.prog 25 #[.pointer (some ⟨O, 0, none⟩), .int .i64 (T : Int), .int .i64 3] w fun e w' => ∃ v, e = .returned v ∧ w'.ownsRow w.heap.size 36 2 v (dueTo T 3 (min OS.l.length 64) OS.l).length (itsC (dueTo T 3 (min OS.l.length 64) OS.l)) ∧ LQ w0 w' (fun k => Z k ∨ v.ownBlock = some k) N S X O I { OS with l := markTo T 3 (min OS.l.length 64) OS.l } IS G ∧ Only (fun k => ¬ Z k) w w' := by
  obtain ⟨F, vO, vG, h⟩ := h
  refine (due_ox O OS vO T 3 (by omega) (by omega) w h.o hl).mono fun _ w' ⟨v, he, hr, h1, h2⟩ => ⟨v, he, hr, ?_⟩
  obtain ⟨h3, h4⟩ := h.step_o h1 h2 (NewOb.refl _ _)
  exact ⟨h3.row_ (fun k hk => hk.elim (h.n.bd k) (h.lt k)) hr, h4⟩
theorem ack_lq (n : Int) (h : LQ w0 w Z N S X O I OS IS G) (ha : OS.acked ≤ 2000000000000) (hl : OS.l.length ≤ 5000) : Calls Tryd.prog 26 #[.pointer (some ⟨O, 0, none⟩), .int .i64 n] w fun e w' => e = .returned (.int .i64 (ackO OS n).1) ∧ LQ w0 w' Z N S X O I (ackO OS n).2 IS G ∧ Only (fun k => ¬ Z k) w w' := by
  obtain ⟨F, vO, vG, h⟩ := h
  refine (ack_ox O OS vO n w h.o ha hl).mono fun _ w' ⟨he, v', h1, h2, h3⟩ => ⟨he, ?_⟩
  obtain ⟨h4, h5⟩ := h.step_o h1 (h2.mono (fun k e => .inl e)) (fun k e => .inl (by rw [← h3]; exact e))
  exact ⟨⟨F, _, vG, h4⟩, h5⟩
theorem receive_lq (x : It) (h : LQ w0 w Z N S X O I OS IS G) (ht : IS.taken ≤ 2000000000000) (hh : IS.held ≤ 1000) : Calls Tryd.prog 18 #[.pointer (some ⟨I, 0, none⟩), .agg #[.int .i64 x.n, .string x.t]] w fun e w' => e = .returned (.int .i64 (recvI IS x).1) ∧ LQ w0 w' Z N S X O I OS (recvI IS x).2 G ∧ Only (fun k => ¬ Z k) w w' := by
  obtain ⟨F, vO, vG, h⟩ := h
  refine (receive_in I IS x w h.i ht hh).mono fun _ w' ⟨he, h1, h2⟩ => ⟨he, ?_⟩
  exact ⟨⟨F, vO, vG, (h.step_i h1 h2).1⟩, (h.step_i h1 h2).2⟩
theorem taken_lq (h : LQ w0 w Z N S X O I OS IS G) : Calls Tryd.prog 20 #[.pointer (some ⟨I, 0, none⟩)] w fun e w' => e = .returned (.int .i64 IS.taken) ∧ w = w' := by
  obtain ⟨F, vO, vG, h⟩ := h
  exact taken_in I IS w h.i
def TakeLq (w0 : World) (Z : Nat → Prop) (N : Nat) (S : NetS) (X O I : Nat) (OS : OutS) (IS : InS) (G : List It) (w : World) (e : Ending) (w' : World) : Prop := match nextI IS with
  | none => e = .returned (.tuple #[.agg #[.int .i64 0, .string ⟨#[]⟩], .int .i64 8]) ∧ Only Nobody w w'
  | some x => e = .returned (.tuple #[.agg #[.int .i64 x.n, .string x.t], .int .i64 0]) ∧ LQ w0 w' Z N S X O I OS (tookI IS) G ∧ Only (fun k => ¬ Z k) w w'
theorem take_lq (h : LQ w0 w Z N S X O I OS IS G) (ht : IS.taken ≤ 2000000000000) (hh : ∀ x, nextI IS = some x → 1 ≤ IS.held) (hh2 : IS.held ≤ 1000) : Calls Tryd.prog 15 #[.pointer (some ⟨I, 0, none⟩)] w (TakeLq w0 Z N S X O I OS IS G w) := by
  obtain ⟨F, vO, vG, h⟩ := h
  refine (take_in I IS w h.i ht hh hh2).mono fun e w' hp => ?_
  unfold TakePost at hp
  unfold TakeLq
  cases hn : nextI IS with
  | none => rw [hn] at hp; exact hp
  | some x =>
    rw [hn] at hp
    obtain ⟨he, h1, h2⟩ := hp
    exact ⟨he, ⟨F, vO, vG, (h.step_i h1 h2).1⟩, (h.step_i h1 h2).2⟩
theorem acked_lq (h : LQ w0 w Z N S X O I OS IS G) : Calls Tryd.prog 32 #[.pointer (some ⟨O, 0, none⟩)] w fun e w' => e = .returned (.int .i64 OS.acked) ∧ w = w' := by
  obtain ⟨F, vO, vG, h⟩ := h
  exact acked_ox O OS vO w h.o
/-- The cells of the sides' block. -/
theorem LQ.cells (h : LQ w0 w Z N S X O I OS IS G) : w.cell? ⟨X, 0, none⟩ = some (.pointer (some ⟨O, 0, none⟩)) ∧ w.cell? ⟨X, 1, none⟩ = some (.pointer (some ⟨I, 0, none⟩)) ∧ w.cell? ⟨X, 3, none⟩ = some (.bool true) ∧ w.frozen? ⟨X, 3, none⟩ = false := by
  obtain ⟨F, vO, vG, h⟩ := h
  exact ⟨h.x.cell 0, h.x.cell 1, h.x.cell 3, h.x.frozen 3⟩
theorem LQ.ok_ (h : LQ w0 w Z N S X O I OS IS G) : LQ w0 (w.setCell ⟨X, 3, none⟩ (.bool true)) Z N S X O I OS IS G ∧ Only (fun k => ¬ Z k) w (w.setCell ⟨X, 3, none⟩ (.bool true)) := by
  obtain ⟨F, vO, vG, h⟩ := h
  have hx : Blk (w.setCell ⟨X, 3, none⟩ (.bool true)) X 76 #[.pointer (some ⟨O, 0, none⟩), .pointer (some ⟨I, 0, none⟩), vG, .bool true] := h.x.set_ 3 (.bool true)
  have ho : Only (fun k => k = X ∨ vG.ownBlock = some k) w (w.setCell ⟨X, 3, none⟩ (.bool true)) := (Only.refl _ w).setCell (p := ⟨X, 3, none⟩) (.inl (.inl rfl)) _
  have ho1 : Only (fun k => k = X) w (w.setCell ⟨X, 3, none⟩ (.bool true)) := (Only.refl (fun k => k = X) w).setCell (p := ⟨X, 3, none⟩) (.inl rfl) _
  have := h.step_g hx (ho1.row h.g (fun k e e2 => (h.bg k e).1 e2)) ho (NewOb.refl _ _)
  exact ⟨⟨F, vO, vG, this.1⟩, this.2⟩
end
end Go.Proofs.YthmndclmecnpmaaDoor
