/- Send: the plain words and lemmas that its walk wants. -/
import Derived.Test.YthmndclmecnpmaaDoorWNetW
import Derived.Deep.Cut
import Derived.Deep.CutRange
import Derived.Deep.DeepCutAuto
namespace Go.Proofs.YthmndclmecnpmaaDoor.Nw
open Go.RowKit Go.Maps

instance lawfulBA : LawfulBEq ByteArray where
  eq_of_beq := by
    intro a b h
    obtain ⟨a⟩ := a
    obtain ⟨b⟩ := b
    have : (a == b) = true := h
    rw [eq_of_beq this]
  rfl := by
    intro a
    obtain ⟨a⟩ := a
    show (a == a) = true
    simp

set_option maxRecDepth 100000 in
theorem addr0 (g j : Nat) : (⟨g, 0, none⟩ : Addr).add j = ⟨g, j, none⟩ := by unfold Addr.add; split <;> simp_all

/-- The byte of the script that the next packet takes. -/
def NetS.byte (S : NetS) : UInt8 := S.script.getD S.use 0
/-- The delays of a byte. -/
def delaysL (b : UInt8) : List Int := if b.toNat % 4 = 3 then [] else if b.toNat % 4 = 2 then [d0 b, d1 b] else [d0 b]
/-- The delays of the copies of the next packet between two places. -/
def NetS.copies (S : NetS) (a b : ByteArray) : List Int := if S.cut (linkS a b).1 (linkS a b).2 then [] else delaysL S.byte

set_option maxRecDepth 100000 in
theorem delaysL_le (b : UInt8) : (delaysL b).length ≤ 2 := by unfold delaysL; (repeat' split) <;> simp
set_option maxRecDepth 100000 in
theorem delaysL_bd (b : UInt8) : ∀ d ∈ delaysL b, 1 ≤ d ∧ d ≤ 8 := by
  have hb : (b.toNat : Int) < 256 := by have := b.toNat_lt; omega
  have h0 : 1 ≤ d0 b ∧ d0 b ≤ 8 := by unfold d0; omega
  have h1 : 1 ≤ d1 b ∧ d1 b ≤ 8 := by unfold d1; omega
  unfold delaysL
  (repeat' split) <;> simp [h0, h1]
set_option maxRecDepth 100000 in
theorem copies_le (S : NetS) (a b : ByteArray) : (S.copies a b).length ≤ 2 := by unfold NetS.copies; split; (· simp); exact delaysL_le _
set_option maxRecDepth 100000 in
theorem copies_bd (S : NetS) (a b : ByteArray) : ∀ d ∈ S.copies a b, 1 ≤ d ∧ d ≤ 8 := by unfold NetS.copies; split; (· simp); exact delaysL_bd _

/-- The slice of the delays. -/
def LAt (B : Nat) (w : World) (l : List Int) (v : Value) : Prop :=
  (l = [] ∧ v = .slice none 0 0) ∨ ∃ g, v = .slice (some ⟨g, 0, none⟩) l.length l.length ∧ Blk w g 3 (l.map (Value.int .i64)).toArray ∧ B ≤ g

set_option maxRecDepth 100000 in
theorem LAt.keep {B : Nat} {w w' : World} {l : List Int} {v : Value} (h : LAt B w l v) {F : Nat → Prop} (ho : Only F w w') (hF : ∀ g, v.ownBlock = some g → ¬ F g) : LAt B w' l v := by
  rcases h with h | ⟨g, hv, hb, hg⟩
  · exact .inl h
  · exact .inr ⟨g, hv, ho.blk hb (hF g (by rw [hv]; rfl)), hg⟩
set_option maxRecDepth 100000 in
theorem LAt.base {B B' : Nat} {w : World} {l : List Int} {v : Value} (h : LAt B w l v) (hB : B' ≤ B) : LAt B' w l v := by
  rcases h with h | ⟨g, hv, hb, hg⟩
  · exact .inl h
  · exact .inr ⟨g, hv, hb, by omega⟩

set_option maxRecDepth 100000 in
theorem LAt.form {B : Nat} {w : World} {l : List Int} {v : Value} (h : LAt B w l v) : ∃ A, v = .slice A l.length l.length := by
  rcases h with ⟨h1, h2⟩ | ⟨g, h2, _⟩
  · exact ⟨none, by rw [h1]; exact h2⟩
  · exact ⟨_, h2⟩

set_option maxRecDepth 100000 in
theorem delays_at (b : UInt8) (w : World) : Calls Tryd.prog 63 #[.int .u8 b.toNat] w fun e w' => ∃ v, e = .returned v ∧ LAt w.heap.size w' (delaysL b) v ∧ Only Nobody w w' := by
  unfold delaysL
  by_cases h : b.toNat % 4 = 3
  · refine (delays_none b h w).mono ?_
    rintro e w' ⟨rfl, rfl⟩
    exact ⟨_, rfl, .inl ⟨by simp [h], rfl⟩, Only.refl _ _⟩
  · by_cases h2 : b.toNat % 4 = 2
    · refine (delays_two b h2 w).mono ?_
      rintro e w' ⟨rfl, rfl⟩
      exact ⟨_, rfl, .inr ⟨w.heap.size, by simp [h2], by simp [h2]; exact Blk.new _ _ _, Nat.le_refl _⟩, (Only.refl _ _).alloc _⟩
    · refine (delays_one b h h2 w).mono ?_
      rintro e w' ⟨rfl, rfl⟩
      exact ⟨_, rfl, .inr ⟨w.heap.size, by simp [h, h2], by simp [h, h2]; exact Blk.new _ _ _, Nat.le_refl _⟩, (Only.refl _ _).alloc _⟩

set_option maxRecDepth 100000 in
theorem linkS_small {a b : ByteArray} (ha : a.size ≤ maxLen) (hb : b.size ≤ maxLen) : (linkS a b).1.size ≤ maxLen ∧ (linkS a b).2.size ≤ maxLen := by
  rcases linkS_cases a b with e | e <;> rw [e]
  · exact ⟨ha, hb⟩
  · exact ⟨hb, ha⟩
set_option maxRecDepth 100000 in
theorem place_small {a : ByteArray} (h : placeB a = true) : a.size ≤ maxLen := by
  unfold placeB at h
  simp only [Bool.and_eq_true, decide_eq_true_eq] at h
  simp only [maxLen]
  omega

set_option maxRecDepth 100000 in
theorem look_cut {w : World} {mC nC : Nat} {DC : DataW Unit} {S : NetS} (h : w.ownsMap Tryd.prog 114 (plainElem Tryd.prog 4) mC nC DC) (hc : ∀ a b : ByteArray, a.size ≤ maxLen → b.size ≤ maxLen → DC.atKey (klp a b) (.lit (.bool false)) = .lit (.bool (S.cut a b)))
    {a b : ByteArray} (ha : a.size ≤ maxLen) (hb : b.size ≤ maxLen) : (Instr.lookup 106 (.map (some mC)) (.agg #[.string a, .string b]) false).run Tryd.prog w = .ok (.bool (S.cut a b)) w := by
  obtain ⟨v, ps, hrun, hv⟩ := h.lookup keyP Tryd.underlying106 (zeroBool w) (plainElem_bool Tryd.underlying4 false) (key_klp ha hb)
  rw [hc a b ha hb] at hv
  have : v = .bool (S.cut a b) := by
    unfold plainElem at hv
    rw [Tryd.underlying4] at hv
    cases v <;> simp at hv
    rw [hv.1]
  rw [hrun, this]

set_option maxRecDepth 100000 in
theorem look_to {w : World} {F : Nat → Prop} {N : Nat} {S : NetS} {sv : Value} {mT mC nT nC : Nat} {DT DC : DataW Unit} {box : ByteArray → Nat} {fq : ByteArray → Nat → Prop}
    (h : NetParts w F N S sv mT mC nT nC DT DC box fq) (s : ByteArray) (hs : s.size ≤ maxLen) : (Instr.lookup 105 (.map (some mT)) (.string s) false).run Tryd.prog w = .ok (ptrOf (if s ∈ S.keys then some (box s) else none)) w := by
  obtain ⟨v, ps, hrun, hv⟩ := h.mt.lookup keyS Tryd.underlying105 (zeroPtr w) ptrElem_none (key_kl hs)
  rw [hrun]
  congr 1
  by_cases hk : s ∈ S.keys
  · rw [if_pos hk]
    rw [h.at_ s hk] at hv
    rcases ptrElem_inv hv with ⟨_, h2⟩ | ⟨k, h1, h2⟩
    · omega
    · rw [h1]; simp only [ptrOf, Option.map_some]; congr 3; omega
  · rw [if_neg hk]
    have : Maps.has DT (kl s) = false := by
      cases hh : Maps.has DT (kl s)
      · rfl
      · exact absurd ((h.keys s).1 hh) hk
    rw [Maps.atKey_of_not_has this] at hv
    rcases ptrElem_inv hv with ⟨h1, _⟩ | ⟨k, _, h2⟩
    · exact h1
    · omega

/-- A set of blocks, and those that are new in between. -/
def Upto (F : Nat → Prop) (w w' : World) : Nat → Prop := fun b => F b ∨ (w.heap.size ≤ b ∧ b < w'.heap.size)

def pushK (now sent : Nat) (a c : ByteArray) (l : List Int) : Nat → List Cp → List Cp
  | 0, q => q
  | k + 1, q => pushL (pushK now sent a c l k q) ⟨now + l.getD k 0, sent, k, a, c⟩
set_option maxRecDepth 100000 in
theorem pushK_len (now sent : Nat) (a c : ByteArray) (l : List Int) : ∀ (k : Nat) (q : List Cp), (pushK now sent a c l k q).length = q.length + k
  | 0, _ => rfl
  | k + 1, q => by rw [pushK, pushL_len, pushK_len]; omega

/-- The network whose next byte is taken. -/
def NetS.used (S : NetS) : NetS := { S with use := min (S.use + 1) S.script.length }
/-- .. with a queue for a place. -/
def NetS.with_ (S : NetS) (b : ByteArray) : NetS := { S with keys := if b ∈ S.keys then S.keys else S.keys ++ [b] }
/-- .. with another queue for a place. -/
def NetS.put (S : NetS) (b : ByteArray) (q : List Cp) : NetS := { S with qs := fun s => if s = b then q else S.qs s }
/-- A packet that is accepted. -/
def netOk (S : NetS) (a b c : ByteArray) : NetS :=
  { (S.used.with_ b).put b (pushK S.now S.sent a c (S.copies a b) (S.copies a b).length (S.qs b)) with sent := S.sent + 1, lost := S.lost + (if S.copies a b = [] then 1 else 0) }
def netSend (S : NetS) (a b c : ByteArray) : Int × NetS := if 4096 < S.pend + (S.copies a b).length then (9, S) else (0, netOk S a b c)

def SendPost (F : Nat → Prop) (N : Nat) (S : NetS) (a b c : ByteArray) (w : World) (e : Ending) (w' : World) : Prop :=
  e = .returned (.int .i64 (netSend S a b c).1) ∧ NetAt w' (Upto F w w') N (netSend S a b c).2 ∧ Only F w w'


set_option maxRecDepth 100000 in
theorem ptr_ne (k : Nat) (w : World) : (binOp .eql 119 (.pointer (some ⟨k, 0, none⟩)) (.pointer none)).run Tryd.prog w = .ok (.bool false) w := by kernel_rfl

set_option maxRecDepth 100000 in
theorem NetAt.bound {w : World} {F : Nat → Prop} {N : Nat} {S : NetS} (h : NetAt w F N S) : NetAt w (fun b => F b ∧ b < w.heap.size) N S := by
  obtain ⟨sv, mT, mC, nT, nC, DT, DC, box, fq, h⟩ := h
  exact ⟨sv, mT, mC, nT, nC, DT, DC, box, fq, { h with fN := ⟨h.fN, h.blk.lt⟩, fT := ⟨h.fT, h.mt.lt⟩, fC := ⟨h.fC, h.mc.lt⟩, fS := fun g e => ⟨h.fS g e, (h.scr.lt g e).2⟩, fq_in := fun s b hb => ⟨⟨(h.fq_in s b hb).1, (h.fq_in s b hb).2.1⟩, (h.fq_in s b hb).2⟩ }⟩

set_option maxRecDepth 100000 in
theorem QAt.bound {w : World} {F : Nat → Prop} {k : Nat} {q : List Cp} (h : QAt w F k q) : QAt w (fun b => F b ∧ b < w.heap.size) k q := by
  obtain ⟨v, hb, hr, hk, hg⟩ := h
  exact ⟨v, hb, hr, ⟨hk, hb.lt⟩, fun g e => ⟨hg g e, (hr.lt g e).2⟩⟩

section
variable {w w' : World} {F : Nat → Prop} {N : Nat} {S : NetS} {sv : Value} {mT mC nT nC : Nat} {DT DC : DataW Unit} {box : ByteArray → Nat} {fq : ByteArray → Nat → Prop}

set_option maxRecDepth 100000 in
theorem le_sum {α : Type} (f : α → Nat) (x : α) : ∀ (l : List α), x ∈ l → f x ≤ (l.map f).sum
  | [], h => absurd h (by simp)
  | y :: r, h => by
    rcases List.mem_cons.1 h with rfl | h
    · simp
    · have := le_sum f x r h
      simp only [List.map_cons, List.sum_cons]
      omega
set_option maxRecDepth 100000 in
theorem NetParts.qs_le (h : NetParts w F N S sv mT mC nT nC DT DC box fq) (b : ByteArray) : (S.qs b).length ≤ S.pend := by
  by_cases hb : b ∈ S.keys
  · exact le_sum (fun s => (S.qs s).length) b S.keys hb
  · rw [h.rest b hb]; exact Nat.zero_le _

set_option maxRecDepth 100000 in
/-- One queue has turned. -/
theorem NetParts.pushed (h : NetParts w F N S sv mT mC nT nC DT DC box fq) {b : ByteArray} (hb : b ∈ S.keys) {q : List Cp} (hq : QAt w' (More (fq b) w) (box b) q) (ho : Only (fq b) w w') :
    NetAt w' (More F w) N (S.put b q) := by
  have hsz := ho.size
  refine ⟨sv, mT, mC, nT, nC, DT, DC, box, fun s x => if s = b then (More (fq b) w x ∧ x < w'.heap.size) else fq s x, ?_⟩
  refine ⟨ho.blk h.blk (fun x => (h.fq_in b N x).2.2.1 rfl), .inl h.fN, .inl h.fT, .inl h.fC, ho.row h.scr (fun g e x => (h.fq_in b g x).2.2.2.2.2 e), fun g e => .inl (h.fS g e), ho.map_ h.mt (fun x => (h.fq_in b mT x).2.2.2.1 rfl), ho.map_ h.mc (fun x => (h.fq_in b mC x).2.2.2.2.1 rfl),
    h.hT, h.hC, h.tc, h.useLe, h.keys, h.nodup, h.small, h.at_, ?_, ?_, ?_, ?_, h.cuts⟩
  · intro s hs
    by_cases e : s = b
    · subst e
      simp only [NetS.put, if_true]
      exact hq.bound
    · simp only [NetS.put, if_neg e]
      exact (h.box s hs).keep ho (fun x hx hx' => h.fq_ne s b x e hx hx')
  · intro s hs
    have e : s ≠ b := fun e => hs (e ▸ hb)
    simp only [NetS.put, if_neg e]
    exact h.rest s hs
  · intro s x hx
    by_cases e : s = b
    · subst e
      simp only [if_true] at hx
      obtain ⟨h1 | h1, h2⟩ := hx
      · have := h.fq_in s x h1
        exact ⟨.inl this.1, h2, this.2.2⟩
      · have hN := h.blk.lt
        have hT := h.mt.lt
        have hC := h.mc.lt
        refine ⟨.inr h1, h2, by omega, by omega, by omega, ?_⟩
        intro e
        have := (h.scr.lt x e).2
        omega
    · simp only [if_neg e] at hx
      have := h.fq_in s x hx
      exact ⟨.inl this.1, by omega, this.2.2⟩
  · intro s t x hne hs ht
    by_cases e : s = b
    · have e2 : t ≠ b := fun e2 => hne (e.trans e2.symm)
      simp only [if_pos e] at hs
      simp only [if_neg e2] at ht
      obtain ⟨h1 | h1, _⟩ := hs
      · exact h.fq_ne b t x (fun k => e2 k.symm) h1 ht
      · have := (h.fq_in t x ht).2.1
        omega
    · simp only [if_neg e] at hs
      by_cases e2 : t = b
      · simp only [if_pos e2] at ht
        obtain ⟨h1 | h1, _⟩ := ht
        · exact h.fq_ne s b x e hs h1
        · have := (h.fq_in s x hs).2.1
          omega
      · simp only [if_neg e2] at ht
        exact h.fq_ne s t x hne hs ht

set_option maxRecDepth 100000 in
theorem with_keys (S : NetS) (b : ByteArray) : (S.with_ b).keys = if b ∈ S.keys then S.keys else S.keys ++ [b] := rfl

set_option maxRecDepth 100000 in
/-- A place has got an empty queue. w1: the world in which the new blocks lie; w': the map is written. -/
theorem NetParts.newkey {w1 : World} {G : Nat → Prop} {k : Nat} (h : NetParts w F N S sv mT mC nT nC DT DC box fq) {b : ByteArray} (hb : b ∉ S.keys) (hsb : b.size ≤ 64) (ho : Only Nobody w w1) (hq : QAt w1 G k []) (hG : ∀ x, G x → w.heap.size ≤ x)
    (hm : w'.ownsMap Tryd.prog 9 ptrElem mT (nT + 1) (DT.put (kl b) (.lit (.int .i64 k)))) (hg : w1.grownBy w' (some mT)) : NetAt w' (fun x => F x ∨ G x) N (S.with_ b) := by
  have hT := h.mt.lt
  have ho1 : Only (· = mT) w w' := (ho.mono (fun _ x => x.elim)).trans (Only.of_grown hg (fun k hk => by injection hk with hk; exact hk.symm))
  have hsz := ho1.size
  have hsz1 := hg.size
  have hkl : WideAt.IsKeyLit (kl b) := trivial
  have hmap := h.mt.isMap
  have hbs : ∀ s, s ∈ S.keys → s ≠ b := fun s hs e => hb (e ▸ hs)
  refine ⟨sv, mT, mC, nT + 1, nC, DT.put (kl b) (.lit (.int .i64 k)), DC, fun s => if s = b then k else box s, fun s x => if s = b then (G x ∧ x < w'.heap.size) else fq s x, ?_⟩
  have hNT : N ≠ mT := by
    rintro rfl
    obtain ⟨es, clock, hm, _⟩ := h.mt
    have := h.blk
    unfold Blk at this
    rw [hm] at this
    cases this
  have hsT : ∀ g, sv.ownBlock = some g → g ≠ mT := by
    rintro g hgo rfl
    obtain ⟨es, clock, hm, _⟩ := h.mt
    rcases h.scr.2 with ⟨h1, _⟩ | ⟨g', cap', cur, hv, hb', hh, _⟩
    · rw [h1] at hgo; cases hgo
    · rw [hv] at hgo
      simp only [Value.ownBlock, Option.some.injEq] at hgo
      subst hgo
      rw [hm] at hh
      cases hh
  refine ⟨ho1.blk h.blk hNT, .inl h.fN, .inl h.fT, .inl h.fC, ho1.row h.scr hsT, fun g e => .inl (h.fS g e), hm, ho1.map_ h.mc (fun e => h.tc e.symm), ?_, h.hC, h.tc, h.useLe, ?_, ?_, ?_, ?_, ?_, ?_, ?_, ?_, h.cuts⟩
  · rw [with_keys, if_neg hb, List.length_append]
    have := h.hT
    simp only [List.length_cons, List.length_nil]
    omega
  · intro s
    rw [with_keys, if_neg hb, List.mem_append, List.mem_singleton]
    by_cases e : s = b
    · subst e
      rw [Maps.has_put_same hmap hkl]
      simp
    · rw [Maps.has_put_other (fun hh => e (kl_inj hh)), h.keys s]
      simp [e]
  · rw [with_keys, if_neg hb, List.nodup_append]
    refine ⟨h.nodup, by simp, ?_⟩
    intro x hx y hy
    rw [List.mem_singleton] at hy
    subst hy
    exact hbs x hx
  · intro s hs
    rw [with_keys, if_neg hb, List.mem_append, List.mem_singleton] at hs
    rcases hs with hs | rfl
    · exact h.small s hs
    · exact hsb
  · intro s hs
    rw [with_keys, if_neg hb, List.mem_append, List.mem_singleton] at hs
    by_cases e : s = b
    · subst e
      rw [Maps.atKey_put_same hmap hkl, if_pos rfl]
    · rw [Maps.atKey_put_other (fun hh => e (kl_inj hh)), if_neg e]
      exact h.at_ s (by simpa [e] using hs)
  · intro s hs
    rw [with_keys, if_neg hb, List.mem_append, List.mem_singleton] at hs
    by_cases e : s = b
    · subst e
      simp only [if_true]
      have e2 : (S.with_ s).qs s = [] := h.rest s hb
      rw [e2]
      refine ((hq.keep (Only.of_grown (F := (· = mT)) hg (fun k hk => by injection hk with hk; exact hk.symm)) (fun x hx e => ?_))).bound
      have := hG x hx
      omega
    · simp only [if_neg e]
      exact (h.box s (by simpa [e] using hs)).keep ho1 (fun x hx hx' => (h.fq_in s x hx).2.2.2.1 hx')
  · intro s hs
    rw [with_keys, if_neg hb, List.mem_append, List.mem_singleton] at hs
    exact h.rest s (fun x => hs (.inl x))
  · intro s x hx
    by_cases e : s = b
    · subst e
      simp only [if_true] at hx
      have hN := h.blk.lt
      have hC := h.mc.lt
      have := hG x hx.1
      refine ⟨.inr hx.1, hx.2, by omega, by omega, by omega, ?_⟩
      intro e
      have := (h.scr.lt x e).2
      omega
    · simp only [if_neg e] at hx
      have := h.fq_in s x hx
      exact ⟨.inl this.1, by omega, this.2.2⟩
  · intro s t x hne hs ht
    by_cases e : s = b
    · have e2 : t ≠ b := fun e2 => hne (e.trans e2.symm)
      simp only [if_pos e] at hs
      simp only [if_neg e2] at ht
      have h1 := hG x hs.1
      have := (h.fq_in t x ht).2.1
      omega
    · simp only [if_neg e] at hs
      by_cases e2 : t = b
      · simp only [if_pos e2] at ht
        have h1 := hG x ht.1
        have := (h.fq_in s x hs).2.1
        omega
      · simp only [if_neg e2] at ht
        exact h.fq_ne s t x hne hs ht

end

end Go.Proofs.YthmndclmecnpmaaDoor.Nw
