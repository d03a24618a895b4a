/- The network at the level of a law: one word that carries all; the methods' contracts in it. -/
import Derived.Test.YthmndclmecnpmaaDoorWNetZ
namespace Go.Proofs.YthmndclmecnpmaaDoor.Nw
open Go.RowKit Go.Maps

/-- A network in state S at block N, its blocks F: all of them new since w0. -/
structure Net (w0 w : World) (F : Nat → Prop) (N : Nat) (S : NetS) : Prop where
  at_ : NetAt w F N S
  bd : ∀ b, F b → b < w.heap.size
  lo : ∀ b, F b → w0.heap.size ≤ b
  bel : Below w0.heap.size w0 w

set_option maxRecDepth 100000 in
theorem Net.only {w0 w w' : World} {F : Nat → Prop} {N : Nat} {S S' : NetS} (h : Net w0 w F N S) (ho : Only F w w') (h' : NetAt w' F N S') : Net w0 w' F N S' :=
  ⟨h', fun b hb => Nat.lt_of_lt_of_le (h.bd b hb) ho.size, h.lo, h.bel.trans (ho.below h.bel.size h.lo)⟩
set_option maxRecDepth 100000 in
theorem Net.upto {w0 w w' : World} {F : Nat → Prop} {N : Nat} {S S' : NetS} (h : Net w0 w F N S) (ho : Only F w w') (h' : NetAt w' (Upto F w w') N S') : Net w0 w' (Upto F w w') N S' := by
  have hs := h.bel.size
  have hs2 := ho.size
  refine ⟨h', ?_, ?_, h.bel.trans (ho.below h.bel.size h.lo)⟩
  · rintro b (hb | hb)
    · have := h.bd b hb; omega
    · exact hb.2
  · rintro b (hb | hb)
    · exact h.lo b hb
    · omega
set_option maxRecDepth 100000 in
/-- The world has turned elsewhere. -/
theorem Net.keep {w0 w w' : World} {F G : Nat → Prop} {N : Nat} {S : NetS} (h : Net w0 w F N S) (ho : Only G w w') (hG : ∀ b, G b → w0.heap.size ≤ b) (hd : ∀ b, F b → ¬ G b) : Net w0 w' F N S :=
  ⟨h.at_.keep ho hd, fun b hb => Nat.lt_of_lt_of_le (h.bd b hb) ho.size, h.lo, h.bel.trans (ho.below h.bel.size hG)⟩

/-- No block below the heap's old size has come to the network. -/
def Grows (F F' : Nat → Prop) (w : World) : Prop := ∀ b, b < w.heap.size → F' b → F b
set_option maxRecDepth 100000 in
theorem Grows.refl (F : Nat → Prop) (w : World) : Grows F F w := fun _ _ h => h
set_option maxRecDepth 100000 in
theorem Grows.upto (F : Nat → Prop) (w w' : World) : Grows F (Upto F w w') w := fun b hb h => by
  rcases h with h | h
  · exact h
  · omega

/-- Bounds that every state of a law keeps. -/
structure Small (S : NetS) : Prop where
  scr : S.script.length ≤ 1000000000000000
  pend : S.pend ≤ 4096
  now : S.now ≤ 100000
  sent : S.sent ≤ 100000
  lost : S.lost ≤ S.sent
  keys : S.keys.length ≤ S.sent
  ncut : S.ncut ≤ 100000

/-- The whole of Send. -/
def netSendAll (S : NetS) (a b c : ByteArray) : Int × NetS := if (placeB a && placeB b) = false then (12, S) else if 1048576 < c.size then (5, S) else netSend S a b c

set_option maxRecDepth 100000 in
theorem send_net (w0 w : World) (F : Nat → Prop) (N : Nat) (S : NetS) (a b c : ByteArray) (h : Net w0 w F N S) (hs : Small S) (hc : c.size ≤ maxLen) :
    Calls Tryd.prog 54 #[.pointer (some ⟨N, 0, none⟩), .string a, .string b, .string c] w fun e w' => e = .returned (.int .i64 (netSendAll S a b c).1) ∧
      ∃ F', Net w0 w' F' N (netSendAll S a b c).2 ∧ Only F w w' ∧ Grows F F' w := by
  unfold netSendAll
  by_cases hp : (placeB a && placeB b) = false
  · rw [if_pos hp]
    refine (send_name N a b c w hp).mono ?_
    rintro e w' ⟨rfl, rfl⟩
    exact ⟨rfl, F, h, Only.refl _ _, Grows.refl _ _⟩
  · rw [if_neg hp]
    have hp' : (placeB a && placeB b) = true := by simpa using hp
    by_cases hl : 1048576 < c.size
    · rw [if_pos hl]
      refine (send_long N a b c w hp' hl hc).mono ?_
      rintro e w' ⟨rfl, rfl⟩
      exact ⟨rfl, F, h, Only.refl _ _, Grows.refl _ _⟩
    · rw [if_neg hl]
      have h1 := hs.pend
      have h2 := hs.now
      have h3 := hs.sent
      have h4 := hs.lost
      have h5 := hs.keys
      refine (send_any N a b c F S w h.at_ h.bd hp' (by omega) hs.scr (by omega) (by omega) (by omega) (by omega) (by omega)).mono ?_
      rintro e w' ⟨rfl, hn, ho⟩
      exact ⟨rfl, _, h.upto ho hn, ho, Grows.upto F w w'⟩

set_option maxRecDepth 100000 in
theorem step_net (w0 w : World) (F : Nat → Prop) (N : Nat) (S : NetS) (h : Net w0 w F N S) (hs : S.now ≤ 100000) :
    Calls Tryd.prog 55 #[.pointer (some ⟨N, 0, none⟩)] w fun e w' => e = .returned (.tuple #[]) ∧ Net w0 w' F N { S with now := S.now + 1 } ∧ Only F w w' := by
  refine (step_at N F S w h.at_ (by omega)).mono ?_
  rintro e w' ⟨rfl, hn, ho⟩
  exact ⟨rfl, h.only ho hn, ho⟩

/-- What Receive takes, and what it leaves. -/
def netTake (S : NetS) (a : ByteArray) : List Cp := if a ∈ S.keys then (takeL S.now ((S.qs a).length + 1) (S.qs a)).1 else []
def netLeft (S : NetS) (a : ByteArray) : NetS := if a ∈ S.keys then S.put a (takeL S.now ((S.qs a).length + 1) (S.qs a)).2 else S

set_option maxRecDepth 100000 in
theorem receive_net (w0 w : World) (F : Nat → Prop) (N : Nat) (S : NetS) (a : ByteArray) (h : Net w0 w F N S) (hs : S.pend ≤ 4096) (ha : a.size ≤ maxLen) :
    Calls Tryd.prog 56 #[.pointer (some ⟨N, 0, none⟩), .string a] w fun e w' => ∃ v, e = .returned v ∧ w'.ownsRow w.heap.size 113 2 v (netTake S a).length (pksOf (netTake S a)) ∧
      Net w0 w' F N (netLeft S a) ∧ Only F w w' := by
  unfold netTake netLeft
  by_cases hk : a ∈ S.keys
  · rw [if_pos hk, if_pos hk]
    refine (receive_at N a F S w h.at_ h.bd ha hk (by omega)).mono ?_
    rintro e w' ⟨v, rfl, hv, hn, ho⟩
    exact ⟨v, rfl, hv, h.only ho hn, ho⟩
  · rw [if_neg hk, if_neg hk]
    refine (receive_none N a F S w h.at_ ha hk).mono ?_
    rintro e w' ⟨rfl, rfl⟩
    exact ⟨_, rfl, World.ownsRow_nil _ _ _ _, h, Only.refl _ _⟩

set_option maxRecDepth 100000 in
theorem pending_net (w0 w : World) (F : Nat → Prop) (N : Nat) (S : NetS) (h : Net w0 w F N S) (hs : S.pend ≤ 4096) :
    Calls Tryd.prog 64 #[.pointer (some ⟨N, 0, none⟩)] w fun e w' => e = .returned (.int .i64 S.pend) ∧ Net w0 w' F N S ∧ Only Nobody w w' := by
  refine (pending_at N F S w h.at_ (by omega)).mono ?_
  rintro e w' ⟨rfl, hn, ho⟩
  exact ⟨rfl, h.only (ho.nobody F) hn, ho⟩

set_option maxRecDepth 100000 in
theorem cut_net (w0 w : World) (F : Nat → Prop) (N : Nat) (S : NetS) (a b : ByteArray) (h : Net w0 w F N S) (hs : S.ncut ≤ 100000) (ha : a.size ≤ maxLen) (hb : b.size ≤ maxLen) :
    Calls Tryd.prog 43 #[.pointer (some ⟨N, 0, none⟩), .string a, .string b] w fun e w' => e = .returned (.tuple #[]) ∧ Net w0 w' F N (S.link_ a b true 1) ∧ Only F w w' := by
  refine (cut_at N a b F S w h.at_ ha hb (by omega)).mono ?_
  rintro e w' ⟨rfl, hn, ho⟩
  exact ⟨rfl, h.only ho hn, ho⟩
set_option maxRecDepth 100000 in
theorem join_net (w0 w : World) (F : Nat → Prop) (N : Nat) (S : NetS) (a b : ByteArray) (h : Net w0 w F N S) (ha : a.size ≤ maxLen) (hb : b.size ≤ maxLen) :
    Calls Tryd.prog 44 #[.pointer (some ⟨N, 0, none⟩), .string a, .string b] w fun e w' => e = .returned (.tuple #[]) ∧ Net w0 w' F N (S.link_ a b false 0) ∧ Only F w w' := by
  refine (join_at N a b F S w h.at_ ha hb).mono ?_
  rintro e w' ⟨rfl, hn, ho⟩
  exact ⟨rfl, h.only ho hn, ho⟩

set_option maxRecDepth 100000 in
/-- New, from a slice that reads as the script (nil let in). -/
theorem new_net (w0 w : World) (A : Option Addr) (n c : Nat) (script : List UInt8) (hb : Below w0.heap.size w0 w) (h : (A = none ∧ n = 0 ∧ c = 0 ∧ script = []) ∨ ∃ ad, A = some ad ∧ Reads w w.heap.size 1 (some ad) n (byteVals script)) (hn : n ≤ 140737488355328) :
    Calls Tryd.prog 39 #[.slice A n c] w fun e w' => ∃ N F, e = .returned (.pointer (some ⟨N, 0, none⟩)) ∧ Net w0 w' F N (newNet script) ∧ Only Nobody w w' ∧ ∀ b, F b → w.heap.size ≤ b := by
  have fin : ∀ (w' : World) (N : Nat), NetAt w' (fun b => w.heap.size ≤ b ∧ b < w'.heap.size) N (newNet script) → Only Nobody w w' → Net w0 w' (fun b => w.heap.size ≤ b ∧ b < w'.heap.size) N (newNet script) :=
    fun w' N hn ho => ⟨hn, fun b hb => hb.2, fun b hb' => Nat.le_trans hb.size hb'.1, hb.trans (ho.below hb.size (fun _ x => x.elim))⟩
  rcases h with ⟨rfl, rfl, rfl, rfl⟩ | ⟨ad, rfl, h⟩
  · refine (new_nil w).mono ?_
    rintro e w' ⟨N, rfl, hn, ho⟩
    exact ⟨N, _, rfl, fin w' N hn ho, ho, fun b hb => hb.1⟩
  · refine (new_some ad n c script w h hn).mono ?_
    rintro e w' ⟨N, rfl, hn, ho⟩
    exact ⟨N, _, rfl, fin w' N hn ho, ho, fun b hb => hb.1⟩

end Go.Proofs.YthmndclmecnpmaaDoor.Nw
