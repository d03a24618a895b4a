/- The queue of copies: its cells in memory, and plain lemmas on them. -/
import Derived.Test.YthmndclmecnpmaaDoorWords
namespace Go.Proofs.YthmndclmecnpmaaDoor.Nw
open Go.RowKit

/-- A copy of a packet. -/
structure Cp where
  at_ : Int
  pk : Int
  ix : Int
  fr : ByteArray
  da : ByteArray

def Cp.none_ : Cp := ⟨0, 0, 0, ByteArray.empty, ByteArray.empty⟩
instance : Inhabited Cp := ⟨Cp.none_⟩
def Cp.cells (c : Cp) : List Value := [.int .i64 c.at_, .int .i64 c.pk, .int .i64 c.ix, .string c.fr, .string c.da]
def Cp.val (c : Cp) : Value := .agg #[.int .i64 c.at_, .int .i64 c.pk, .int .i64 c.ix, .string c.fr, .string c.da]
def cellsOf (q : List Cp) : List Value := q.flatMap Cp.cells

set_option maxRecDepth 100000 in
theorem cellsOf_nil : cellsOf [] = [] := rfl
set_option maxRecDepth 100000 in
theorem cellsOf_cons (c : Cp) (q : List Cp) : cellsOf (c :: q) = c.cells ++ cellsOf q := rfl
set_option maxRecDepth 100000 in
theorem cellsOf_append (p q : List Cp) : cellsOf (p ++ q) = cellsOf p ++ cellsOf q := by simp [cellsOf]
set_option maxRecDepth 100000 in
theorem cellsOf_one (c : Cp) : cellsOf [c] = c.cells := by simp [cellsOf]
set_option maxRecDepth 100000 in
theorem cells_len (c : Cp) : c.cells.length = 5 := rfl
set_option maxRecDepth 100000 in
theorem cellsOf_len : ∀ q : List Cp, (cellsOf q).length = q.length * 5
  | [] => rfl
  | c :: q => by rw [cellsOf_cons, List.length_append, cellsOf_len q, cells_len, List.length_cons]; omega
set_option maxRecDepth 100000 in
theorem cellsOf_get : ∀ (q : List Cp) (i t : Nat), t < 5 → i < q.length → (cellsOf q)[i * 5 + t]? = (q.getD i default).cells[t]?
  | [], i, t, _, h => absurd h (by simp)
  | c :: q, 0, t, ht, _ => by
    rw [cellsOf_cons, List.getElem?_append_left (by rw [cells_len]; omega)]
    simp
  | c :: q, i + 1, t, ht, h => by
    rw [cellsOf_cons, List.getElem?_append_right (by rw [cells_len]; omega), cells_len, show (i + 1) * 5 + t - 5 = i * 5 + t from by omega, cellsOf_get q i t ht (by simpa using h)]
    simp
set_option maxRecDepth 100000 in
theorem cellsOf_take : ∀ (q : List Cp) (n : Nat), (cellsOf q).take (n * 5) = cellsOf (q.take n)
  | [], n => by simp [cellsOf]
  | c :: q, 0 => by simp [cellsOf]
  | c :: q, n + 1 => by
    rw [cellsOf_cons, List.take_succ_cons, cellsOf_cons, show (n + 1) * 5 = c.cells.length + n * 5 from by rw [cells_len]; omega, List.take_length_add_append, cellsOf_take q n]
set_option maxRecDepth 100000 in
theorem oneCell_cells (c : Cp) : ∀ u ∈ c.cells, u.oneCell' = true := by
  intro u hu
  simp only [Cp.cells, List.mem_cons, List.not_mem_nil, or_false] at hu
  rcases hu with rfl | rfl | rfl | rfl | rfl <;> rfl

/-- Two places changed with each other. -/
def swapQ (q : List Cp) (i j : Nat) : List Cp := (q.set i (q.getD j default)).set j (q.getD i default)
set_option maxRecDepth 100000 in
theorem swapQ_len (q : List Cp) (i j : Nat) : (swapQ q i j).length = q.length := by simp [swapQ]

/-- The cells of a queue with one element replaced. -/
def set5 (cs : List Value) (k : Nat) (c : Cp) : List Value := ((((cs.set k (.int .i64 c.at_)).set (k + 1) (.int .i64 c.pk)).set (k + 2) (.int .i64 c.ix)).set (k + 3) (.string c.fr)).set (k + 4) (.string c.da)
set_option maxRecDepth 100000 in
theorem set5_len (cs : List Value) (k : Nat) (c : Cp) : (set5 cs k c).length = cs.length := by simp [set5]
set_option maxRecDepth 100000 in
theorem set5_get_other (cs : List Value) (k m : Nat) (c : Cp) (h : m < k ∨ k + 5 ≤ m) : (set5 cs k c)[m]? = cs[m]? := by
  unfold set5
  rw [List.getElem?_set_ne (by omega), List.getElem?_set_ne (by omega), List.getElem?_set_ne (by omega), List.getElem?_set_ne (by omega), List.getElem?_set_ne (by omega)]
set_option maxRecDepth 100000 in
theorem set5_get (cs : List Value) (k t : Nat) (c : Cp) (ht : t < 5) (hk : k + 5 ≤ cs.length) : (set5 cs k c)[k + t]? = c.cells[t]? := by
  unfold set5
  rcases (show t = 0 ∨ t = 1 ∨ t = 2 ∨ t = 3 ∨ t = 4 from by omega) with rfl | rfl | rfl | rfl | rfl <;>
    simp [List.getElem?_set, Cp.cells] <;> omega
set_option maxRecDepth 100000 in
theorem cellsOf_set (q : List Cp) (i : Nat) (c : Cp) (hi : i < q.length) : cellsOf (q.set i c) = set5 (cellsOf q) (i * 5) c := by
  apply List.ext_getElem?
  intro m
  have hl := cellsOf_len q
  by_cases hm : m < q.length * 5
  · have e : m = (m / 5) * 5 + m % 5 := by omega
    have h1 : m / 5 < q.length := by omega
    have h2 : m % 5 < 5 := by omega
    rw [e, cellsOf_get _ _ _ h2 (by simpa using h1)]
    by_cases hd : m / 5 = i
    · rw [hd, set5_get _ _ _ _ h2 (by omega)]
      simp [hi]
    · rw [set5_get_other _ _ _ _ (by omega), cellsOf_get _ _ _ h2 h1]
      simp [List.getElem?_set_ne (Ne.symm hd)]
  · rw [List.getElem?_eq_none (by rw [cellsOf_len]; simp; omega), List.getElem?_eq_none (by rw [set5_len]; omega)]

/-- Five cells of a row written, on the block's array. -/
def arr5 (cur : Array Value) (k : Nat) (c : Cp) : Array Value :=
  ((((cur.setIfInBounds k (.int .i64 c.at_)).setIfInBounds (k + 1) (.int .i64 c.pk)).setIfInBounds (k + 2) (.int .i64 c.ix)).setIfInBounds (k + 3) (.string c.fr)).setIfInBounds (k + 4) (.string c.da)
set_option maxRecDepth 100000 in
theorem arr5_toList (cur : Array Value) (k : Nat) (c : Cp) : (arr5 cur k c).toList = set5 cur.toList k c := by simp [arr5, set5]
set_option maxRecDepth 100000 in
theorem arr5_size (cur : Array Value) (k : Nat) (c : Cp) : (arr5 cur k c).size = cur.size := by simp [arr5]
def setCp (w : World) (g k : Nat) (c : Cp) : World :=
  ((((w.setCell ⟨g, k, none⟩ (.int .i64 c.at_)).setCell ⟨g, k + 1, none⟩ (.int .i64 c.pk)).setCell ⟨g, k + 2, none⟩ (.int .i64 c.ix)).setCell ⟨g, k + 3, none⟩ (.string c.fr)).setCell ⟨g, k + 4, none⟩ (.string c.da)
set_option maxRecDepth 100000 in
theorem _root_.Go.Proofs.YthmndclmecnpmaaDoor.Blk.setCp {w : World} {g : Nat} {t : TypeId} {cs : Array Value} (h : Blk w g t cs) (k : Nat) (c : Cp) : Blk (setCp w g k c) g t (arr5 cs k c) :=
  ((((h.set_ _ _).set_ _ _).set_ _ _).set_ _ _).set_ _ _
set_option maxRecDepth 100000 in
theorem set5_take (cs : List Value) (k m : Nat) (c : Cp) : (set5 cs k c).take m = set5 (cs.take m) k c := by
  unfold set5
  simp [List.take_set]

set_option maxRecDepth 100000 in
/-- A queue in a row: what it owns. -/
theorem row_set {w : World} {g n cap : Nat} {q : List Cp} (h : w.ownsRow 0 124 5 (.slice (some ⟨g, 0, none⟩) n cap) n (cellsOf q)) (hn : q.length = n) {i : Nat} (hi : i < n) (c : Cp) :
    (setCp w g (i * 5) c).ownsRow 0 124 5 (.slice (some ⟨g, 0, none⟩) n cap) n (cellsOf (q.set i c)) := by
  refine ⟨by rw [cellsOf_len]; simp [hn], ?_⟩
  rcases h.2 with ⟨h1, _⟩ | ⟨g', cap', cur, hv, hb, hh, hnc, hm, hs, ht⟩
  · cases h1
  · simp only [Value.slice.injEq, Option.some.injEq, Addr.mk.injEq, and_true, true_and] at hv
    obtain ⟨rfl, rfl⟩ := hv
    refine .inr ⟨g, cap, arr5 cur (i * 5) c, rfl, hb, Blk.setCp (t := 124) hh (i * 5) c, hnc, hm, by rw [arr5_size]; exact hs, ?_⟩
    rw [arr5_toList, set5_take, ht, cellsOf_set q i c (by omega)]

end Go.Proofs.YthmndclmecnpmaaDoor.Nw
