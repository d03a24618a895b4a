/- Plain: how a law's network goes from state to state. -/
import Derived.Test.YthmndclmecnpmaaDoorWNetPlain
namespace Go.Proofs.YthmndclmecnpmaaDoor.Nw

/-- A state that stands for the copies P, its numbers at most n. -/
structure Good (S : NetS) (P : List Pc) (n : Nat) : Prop where
  rel : Rel S P
  scr : S.script.length ≤ 1000000000000000
  cop : P.length ≤ 4096
  now : S.now ≤ n
  sent : S.sent ≤ n
  lost : S.lost ≤ S.sent
  keys : S.keys.length ≤ S.sent
  ncut : S.ncut ≤ n

set_option maxRecDepth 100000 in
theorem Good.small {S : NetS} {P : List Pc} {n : Nat} (h : Good S P n) (hn : n ≤ 100000) : Small S :=
  ⟨h.scr, by rw [h.rel.pend]; exact h.cop, Nat.le_trans h.now hn, Nat.le_trans h.sent hn, h.lost, h.keys, Nat.le_trans h.ncut hn⟩
set_option maxRecDepth 100000 in
theorem Good.mono {S : NetS} {P : List Pc} {n m : Nat} (h : Good S P n) (hn : n ≤ m) : Good S P m :=
  ⟨h.rel, h.scr, h.cop, Nat.le_trans h.now hn, Nat.le_trans h.sent hn, h.lost, h.keys, Nat.le_trans h.ncut hn⟩
set_option maxRecDepth 100000 in
theorem Good.pend {S : NetS} {P : List Pc} {n : Nat} (h : Good S P n) : S.pend ≤ 4096 := by rw [h.rel.pend]; exact h.cop
set_option maxRecDepth 100000 in
theorem good_new (script : List UInt8) (h : script.length ≤ 1000000000000000) : Good (newNet script) [] 0 :=
  ⟨rel_new script, h, by simp, Nat.le_refl _, Nat.le_refl _, Nat.le_refl _, Nat.le_refl _, Nat.le_refl _⟩
set_option maxRecDepth 100000 in
theorem good_step {S : NetS} {P : List Pc} {n : Nat} (h : Good S P n) : Good { S with now := S.now + 1 } P (n + 1) :=
  ⟨rel_now h.rel _, h.scr, h.cop, Nat.succ_le_succ h.now, Nat.le_succ_of_le h.sent, h.lost, h.keys, Nat.le_succ_of_le h.ncut⟩
set_option maxRecDepth 100000 in
theorem good_now {S : NetS} {P : List Pc} {n m : Nat} (h : Good S P n) (hm : m ≤ n) : Good { S with now := m } P n :=
  ⟨rel_now h.rel _, h.scr, h.cop, hm, h.sent, h.lost, h.keys, h.ncut⟩
set_option maxRecDepth 100000 in
theorem good_link {S : NetS} {P : List Pc} {n : Nat} (h : Good S P n) (a b : ByteArray) (v : Bool) (k : Nat) (hk : S.ncut + k ≤ n + k) : Good (S.link_ a b v k) P (n + k) :=
  ⟨rel_link h.rel a b v k, h.scr, h.cop, Nat.le_add_right_of_le h.now, Nat.le_add_right_of_le h.sent, h.lost, h.keys, hk⟩
def leftP (P : List Pc) (now : Int) (s : ByteArray) : List Pc := P.filter fun p => !(decide (p.to_ = s) && decide (p.at_ ≤ now))
set_option maxRecDepth 100000 in
theorem good_left {S : NetS} {P : List Pc} {n : Nat} (h : Good S P n) (s : ByteArray) : Good (netLeft S s) (leftP P S.now s) n := by
  have hr := rel_left h.rel s
  have hl : (leftP P S.now s).length ≤ 4096 := Nat.le_trans (List.length_filter_le _ _) h.cop
  refine ⟨hr, ?_, hl, ?_, ?_, ?_, ?_, ?_⟩ <;> (unfold netLeft; split)
  · exact h.scr
  · exact h.scr
  · exact h.now
  · exact h.now
  · exact h.sent
  · exact h.sent
  · exact h.lost
  · exact h.lost
  · exact h.keys
  · exact h.keys
  · exact h.ncut
  · exact h.ncut
set_option maxRecDepth 100000 in
theorem good_ok {S : NetS} {P : List Pc} {n : Nat} (h : Good S P n) (a b c : ByteArray) (hl : P.length + (S.copies a b).length ≤ 4096) : Good (netOk S a b c) (P ++ newP S a b c (S.copies a b) (S.copies a b).length) (n + 1) := by
  refine ⟨rel_ok h.rel a b c, h.scr, ?_, Nat.le_succ_of_le h.now, Nat.succ_le_succ h.sent, ?_, ?_, Nat.le_succ_of_le h.ncut⟩
  · rw [List.length_append]; simp only [newP, List.length_map, List.length_range]; exact hl
  · show S.lost + (if S.copies a b = [] then 1 else 0) ≤ S.sent + 1
    have := h.lost
    split <;> omega
  · show (if b ∈ S.keys then S.keys else S.keys ++ [b]).length ≤ S.sent + 1
    have := h.keys
    split
    · omega
    · rw [List.length_append]; simp only [List.length_singleton]; omega

set_option maxRecDepth 100000 in
theorem send_ok {S : NetS} {P : List Pc} {n : Nat} (h : Good S P n) {a b c : ByteArray} (hp : (placeB a && placeB b) = true) (hc : c.size ≤ 1048576) (hl : P.length + (S.copies a b).length ≤ 4096) : netSendAll S a b c = (0, netOk S a b c) := by
  unfold netSendAll netSend
  rw [if_neg (by simp [hp]), if_neg (by omega), if_neg (by rw [h.rel.pend]; omega)]
set_option maxRecDepth 100000 in
theorem send_bad (S : NetS) {a b : ByteArray} (c : ByteArray) (hp : (placeB a && placeB b) = false) : netSendAll S a b c = (12, S) := by
  unfold netSendAll
  rw [if_pos hp]
set_option maxRecDepth 100000 in
theorem send_big (S : NetS) {a b c : ByteArray} (hp : (placeB a && placeB b) = true) (hc : 1048576 < c.size) : netSendAll S a b c = (5, S) := by
  unfold netSendAll
  rw [if_neg (by simp [hp]), if_pos hc]
set_option maxRecDepth 100000 in
theorem send_full {S : NetS} {P : List Pc} {n : Nat} (h : Good S P n) {a b c : ByteArray} (hp : (placeB a && placeB b) = true) (hc : c.size ≤ 1048576) (hl : 4096 < P.length + (S.copies a b).length) : netSendAll S a b c = (9, S) := by
  unfold netSendAll netSend
  rw [if_neg (by simp [hp]), if_neg (by omega), if_pos (by rw [h.rel.pend]; omega)]

set_option maxRecDepth 100000 in
theorem ok_now (S : NetS) (a b c : ByteArray) : (netOk S a b c).now = S.now := rfl
set_option maxRecDepth 100000 in
theorem ok_sent (S : NetS) (a b c : ByteArray) : (netOk S a b c).sent = S.sent + 1 := rfl
set_option maxRecDepth 100000 in
theorem ok_use (S : NetS) (a b c : ByteArray) : (netOk S a b c).use = min (S.use + 1) S.script.length := rfl
set_option maxRecDepth 100000 in
theorem ok_script (S : NetS) (a b c : ByteArray) : (netOk S a b c).script = S.script := rfl
set_option maxRecDepth 100000 in
theorem ok_cut (S : NetS) (a b c : ByteArray) : (netOk S a b c).cut = S.cut := rfl
set_option maxRecDepth 100000 in
theorem ok_lost (S : NetS) (a b c : ByteArray) : (netOk S a b c).lost = S.lost + (if S.copies a b = [] then 1 else 0) := rfl
set_option maxRecDepth 100000 in
theorem left_now (S : NetS) (s : ByteArray) : (netLeft S s).now = S.now := by unfold netLeft; split <;> rfl
set_option maxRecDepth 100000 in
theorem left_sent (S : NetS) (s : ByteArray) : (netLeft S s).sent = S.sent := by unfold netLeft; split <;> rfl
set_option maxRecDepth 100000 in
theorem left_lost (S : NetS) (s : ByteArray) : (netLeft S s).lost = S.lost := by unfold netLeft; split <;> rfl
set_option maxRecDepth 100000 in
theorem left_use (S : NetS) (s : ByteArray) : (netLeft S s).use = S.use := by unfold netLeft; split <;> rfl
set_option maxRecDepth 100000 in
theorem left_script (S : NetS) (s : ByteArray) : (netLeft S s).script = S.script := by unfold netLeft; split <;> rfl
set_option maxRecDepth 100000 in
theorem left_cut (S : NetS) (s : ByteArray) : (netLeft S s).cut = S.cut := by unfold netLeft; split <;> rfl

end Go.Proofs.YthmndclmecnpmaaDoor.Nw
