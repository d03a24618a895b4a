/- The network in memory: what its blocks hold, for an abstract state. -/
import Derived.Test.YthmndclmecnpmaaDoorWNetS
import Derived.DeepKeys4
namespace Go.Proofs.YthmndclmecnpmaaDoor.Nw
open Go.RowKit Go.Maps Go.ChangeMaps Go.WideMaps

set_option maxRecDepth 100000 in
theorem Tryd.laidOut' : laidOutB Tryd.prog = true := by kernel_rfl
set_option maxRecDepth 100000 in
theorem keyS : Keyed Tryd.prog 9 := string_keyed Tryd.underlying9
set_option maxRecDepth 100000 in
theorem rowP : 114 < Tryd.prog.types.size := of_decide_eq_true (by kernel_rfl)
set_option maxRecDepth 100000 in
theorem keyP : Keyed Tryd.prog 114 := Keyed.of_law (deep_law_laid Tryd.laidOut' (m := 2) (by omega) rowP (by kernel_rfl) (by kernel_rfl))
set_option maxRecDepth 100000 in
theorem zeroPtr (w : World) : (zeroValue 119).run Tryd.prog w = .ok (.pointer none) w := by kernel_rfl
set_option maxRecDepth 100000 in
theorem zeroBool (w : World) : (zeroValue 4).run Tryd.prog w = .ok (.bool false) w := by kernel_rfl

set_option maxRecDepth 100000 in
theorem cellsP : Tryd.prog.cellsOf 114 = 2 := by kernel_rfl
set_option maxRecDepth 100000 in
theorem cellsStr : Tryd.prog.cellsOf 9 = 1 := by kernel_rfl

/-- What the key of a place reads as; the key of a link. -/
def kl (s : ByteArray) : Lit := .string s.data.toList
def klp (a b : ByteArray) : Lit := .string (keyBytes [.string a.data.toList, .string b.data.toList])
set_option maxRecDepth 100000 in
theorem kl_inj {s t : ByteArray} (h : kl s = kl t) : s = t := by
  unfold kl at h
  injection h with h
  exact WideShapes.bytes_inj h
set_option maxRecDepth 100000 in
theorem key_kl {s : ByteArray} (h : s.size ≤ maxLen) : keyOf Tryd.prog 9 (.string s) = some (kl s) := keyOf_string_mk Tryd.underlying9 h
set_option maxRecDepth 100000 in
theorem kl_inv {v : Value} {l : Lit} (h : keyOf Tryd.prog 9 v = some l) : ∃ s : ByteArray, v = .string s ∧ l = kl s ∧ s.size ≤ maxLen := by
  cases v <;> simp [keyOf, Tryd.underlying9, mapKey] at h
  obtain ⟨h1, rfl⟩ := h
  exact ⟨_, rfl, rfl, h1⟩
set_option maxRecDepth 100000 in
theorem key_klp {a b : ByteArray} (ha : a.size ≤ maxLen) (hb : b.size ≤ maxLen) : keyOf Tryd.prog 114 (.agg #[.string a, .string b]) = some (klp a b) := by
  have h1 : Tryd.prog.keyType 114 = true := by kernel_rfl
  have h2 : (Value.agg #[.string a, .string b]).formed Tryd.prog 114 = true := by simp [Value.formed, Tryd.underlying114, cellsP]
  have h3 : ∀ n, Tryd.prog.keyLits (n + 1 + 1) 114 [.string a, .string b] = some [.string a.data.toList, .string b.data.toList] := by
    intro n
    have h4 : ∀ s : ByteArray, s.size ≤ maxLen → Tryd.prog.keyLits (n + 1) 9 [.string s] = some [.string s.data.toList] := by
      intro s hs
      unfold Program.keyLits
      simp [Tryd.underlying9, hs]
    unfold Program.keyLits
    simp only [Tryd.underlying114, cellsP, cellsStr]
    rw [if_pos (show [Value.string a, Value.string b].length = 2 from rfl)]
    have e : List.range 2 = [0, 1] := rfl
    rw [e]
    simp [h4 a ha, h4 b hb]
  obtain ⟨m, hm⟩ : ∃ m, Tryd.prog.types.size = m + 1 := ⟨Tryd.prog.types.size - 1, by have := rowP; omega⟩
  unfold keyOf
  simp only [Tryd.underlying114, h1, h2, Value.cells, Bool.and_self, if_true]
  rw [hm, h3 m]
  rfl
set_option maxRecDepth 100000 in
theorem klp_inj {a b c d : ByteArray} (ha : a.size ≤ maxLen) (hb : b.size ≤ maxLen) (hc : c.size ≤ maxLen) (hd : d.size ≤ maxLen) (h : klp a b = klp c d) : a = c ∧ b = d := by
  have h1 := key_klp ha hb
  have h2 := key_klp hc hd
  rw [h] at h1
  have := keyP.inj h1 h2
  simp only [Value.agg.injEq, Array.mk.injEq, List.cons.injEq, Value.string.injEq, and_true] at this
  exact this

/-- How a pointer to a queue reads. -/
def ptrElem : Value → Option (DataW Unit × List MemPlace)
  | .pointer none => some (.lit (.int .i64 (-1)), [])
  | .pointer (some ⟨k, 0, none⟩) => some (.lit (.int .i64 k), [])
  | _ => none
set_option maxRecDepth 100000 in
theorem ptrElem_none : ptrElem (.pointer none) = some (.lit (.int .i64 (-1)), []) := rfl
set_option maxRecDepth 100000 in
theorem ptrElem_some (k : Nat) : ptrElem (.pointer (some ⟨k, 0, none⟩)) = some (.lit (.int .i64 k), []) := rfl
set_option maxRecDepth 100000 in
theorem ptrElem_inv {v : Value} {z : Int} {ps : List MemPlace} (h : ptrElem v = some (.lit (.int .i64 z), ps)) : (v = .pointer none ∧ z = -1) ∨ ∃ k : Nat, v = .pointer (some ⟨k, 0, none⟩) ∧ z = k := by
  unfold ptrElem at h
  split at h
  · simp only [Option.some.injEq, Prod.mk.injEq, DataW.lit.injEq, Lit.int.injEq, true_and] at h
    exact .inl ⟨rfl, h.1.symm⟩
  · simp only [Option.some.injEq, Prod.mk.injEq, DataW.lit.injEq, Lit.int.injEq, true_and] at h
    exact .inr ⟨_, rfl, h.1.symm⟩
  · cases h

/-- The state of a network. -/
structure NetS where
  script : List UInt8
  now : Nat
  sent : Nat
  lost : Nat
  use : Nat
  keys : List ByteArray
  qs : ByteArray → List Cp
  cut : ByteArray → ByteArray → Bool
  ncut : Nat

def NetS.pend (S : NetS) : Nat := (S.keys.map fun s => (S.qs s).length).sum

def byteVals (l : List UInt8) : List Value := l.map fun b => .int .u8 b.toNat

structure NetParts (w : World) (F : Nat → Prop) (N : Nat) (S : NetS) (sv : Value) (mT mC nT nC : Nat) (DT DC : DataW Unit) (box : ByteArray → Nat) (fq : ByteArray → Nat → Prop) : Prop where
  blk : Blk w N 108 #[sv, .int .i64 S.now, .int .i64 S.sent, .int .i64 S.lost, .int .i64 S.use, .map (some mT), .map (some mC)]
  fN : F N
  fT : F mT
  fC : F mC
  scr : w.ownsRow 0 5 1 sv S.script.length (byteVals S.script)
  fS : ∀ g, sv.ownBlock = some g → F g
  mt : w.ownsMap Tryd.prog 9 ptrElem mT nT DT
  mc : w.ownsMap Tryd.prog 114 (plainElem Tryd.prog 4) mC nC DC
  hT : nT ≤ S.keys.length
  hC : nC ≤ S.ncut
  tc : mT ≠ mC
  useLe : S.use ≤ S.script.length
  keys : ∀ s, Maps.has DT (kl s) = true ↔ s ∈ S.keys
  nodup : S.keys.Nodup
  small : ∀ s ∈ S.keys, s.size ≤ 64
  at_ : ∀ s ∈ S.keys, DT.atKey (kl s) (.lit (.int .i64 (-1))) = .lit (.int .i64 (box s))
  box : ∀ s ∈ S.keys, QAt w (fq s) (box s) (S.qs s)
  rest : ∀ s, s ∉ S.keys → S.qs s = []
  fq_in : ∀ s b, fq s b → F b ∧ b < w.heap.size ∧ b ≠ N ∧ b ≠ mT ∧ b ≠ mC ∧ sv.ownBlock ≠ some b
  fq_ne : ∀ s t b, s ≠ t → fq s b → ¬ fq t b
  cuts : ∀ a b : ByteArray, a.size ≤ maxLen → b.size ≤ maxLen → DC.atKey (klp a b) (.lit (.bool false)) = .lit (.bool (S.cut a b))

/-- A network in state S lies at block N; its blocks are among F. -/
def NetAt (w : World) (F : Nat → Prop) (N : Nat) (S : NetS) : Prop := ∃ sv mT mC nT nC DT DC box fq, NetParts w F N S sv mT mC nT nC DT DC box fq

set_option maxRecDepth 100000 in
theorem NetAt.keep {w w' : World} {F G : Nat → Prop} {N : Nat} {S : NetS} (h : NetAt w F N S) (ho : Only G w w') (hd : ∀ b, F b → ¬ G b) : NetAt w' F N S := by
  obtain ⟨sv, mT, mC, nT, nC, DT, DC, box, fq, h⟩ := h
  exact ⟨sv, mT, mC, nT, nC, DT, DC, box, fq,
    { h with
      blk := ho.blk h.blk (hd _ h.fN)
      scr := ho.row h.scr (fun g e => hd g (h.fS g e))
      mt := ho.map_ h.mt (hd _ h.fT)
      mc := ho.map_ h.mc (hd _ h.fC)
      box := fun s hs => (h.box s hs).keep ho (fun b hb => hd b (h.fq_in s b hb).1)
      fq_in := fun s b hb => ⟨(h.fq_in s b hb).1, Nat.lt_of_lt_of_le (h.fq_in s b hb).2.1 ho.size, (h.fq_in s b hb).2.2⟩ }⟩

set_option maxRecDepth 100000 in
theorem NetAt.mono {w : World} {F G : Nat → Prop} {N : Nat} {S : NetS} (h : NetAt w F N S) (hFG : ∀ b, F b → G b) : NetAt w G N S := by
  obtain ⟨sv, mT, mC, nT, nC, DT, DC, box, fq, h⟩ := h
  exact ⟨sv, mT, mC, nT, nC, DT, DC, box, fq, { h with fN := hFG _ h.fN, fT := hFG _ h.fT, fC := hFG _ h.fC, fS := fun g e => hFG g (h.fS g e), fq_in := fun s b hb => ⟨hFG b (h.fq_in s b hb).1, (h.fq_in s b hb).2⟩ }⟩

end Go.Proofs.YthmndclmecnpmaaDoor.Nw
