/- Network: agree, whatever the call; both sides at the start. -/
import Derived.Test.YtbfkmdcjamillaaLkG
namespace Go.Proofs.Ytbfkmdcjamillaa
open Go.RowKit

theorem agree_any {w0 w : World} {Z : Nat → Prop} {N M : Nat} {S : NetS} {P : List Pc} {L : LinkS} {q : Nat} (o : Op4) (h : PQ w0 w Z N S M L) (hz : ∀ k, Z k → k < w.heap.size) (hr : Run S P L q) (hq : q ≤ 900) :
    Calls Try.prog 27 #[.pointer (some ⟨N, 0, none⟩), .pointer (some ⟨M, 0, none⟩), .agg #[.int .u8 o.kind.toNat, .int .u8 o.from_.toNat, .int .u8 o.to_.toNat, .int .u8 o.data.toNat]] w (AgPost w0 w Z N M (q + 1) L.script) := by
  by_cases h1 : o.kind.toNat % 8 < 3
  · exact agree_send o h hz hr hq h1
  by_cases h2 : o.kind.toNat % 8 = 3 ∨ o.kind.toNat % 8 = 4
  · exact agree_step o h hz hr hq h2
  by_cases h3 : o.kind.toNat % 8 = 5 ∨ o.kind.toNat % 8 = 6
  · exact agree_recv o h hz hr hq h3
  exact agree_cut o h hz hr hq (by omega)

theorem pq_start {w0 w1 w2 : World} {F : Nat → Prop} {N : Nat} {X : List UInt8} {v : Value} (hn : Net w0 w1 F N (newNet X)) (hg : (w1.alloc (.cells #[] 5)).grownBy w2 (some w1.heap.size)) (hr : w2.ownsRow w1.heap.size 5 1 v X.length (byteVals X)) :
    PQ w0 (w2.alloc (.cells #[v, .int .i64 0, .int .i64 0, .int .i64 0, .slice none 0 0, .slice none 0 0] 49)) (fun _ => False) N (newNet X) w2.heap.size ⟨X, 0, 0, 0, [], []⟩ := by
  have h1 : Only Nobody w1 w2 := (Only.refl Nobody w1).trans_more ((((Only.refl (More Nobody w1) w1).alloc _)).trans (Only.of_grown hg (fun k e => .inr (by injection e with e; omega))))
  have h2 : Only Nobody w1 (w2.alloc (.cells #[v, .int .i64 0, .int .i64 0, .int .i64 0, .slice none 0 0, .slice none 0 0] 49)) := h1.alloc _
  have hown : ∀ k, OwnL w2.heap.size v (.slice none 0 0) (.slice none 0 0) k → w1.heap.size ≤ k := by
    intro k hk
    rcases hk with e | e | e | e
    · have := h1.size; omega
    · exact (hr.lt k e).1
    · cases e
    · cases e
  refine ⟨F, v, .slice none 0 0, .slice none 0 0, hn.keep h2 (fun _ x => x.elim) (fun _ _ x => x), ⟨Blk.new w2 _ _, ((Only.refl Nobody w2).alloc _).row (own_base hr (Nat.zero_le _)) (fun _ _ x => x), World.ownsRow_nil _ _ _ _, World.ownsRow_nil _ _ _ _⟩, fun k hk => ?_, fun k hk hm => ?_, fun k hk => hk.elim⟩
  · exact Nat.le_trans hn.bel.size (hown k hk)
  · have := hown k hm
    have := hn.bd k hk
    omega
end Go.Proofs.Ytbfkmdcjamillaa
