/- The walks of Push and Pop of the queue. -/
import Derived.Test.YthmndclmecnpmaaDoorWNetQ
namespace Go.Proofs.YthmndclmecnpmaaDoor.Nw
open Go.RowKit

set_option maxRecDepth 100000 in
theorem assert_cp (x : Value) (w : World) : (Instr.typeAssert (.iface 124 x) 20 124 true).run Tryd.prog w = .ok (.tuple #[x, .bool true]) w := by kernel_rfl

set_option maxRecDepth 100000 in
theorem infoCp : (Tryd.prog.info? 124).map (fun i => (i.zero, i.size, i.bytes)) = some (some (.agg #[.int .i64 0, .int .i64 0, .int .i64 0, .string ByteArray.empty, .string ByteArray.empty]), 5, 56) := by kernel_rfl

/-- What a push leaves. -/
def Pushed (w : World) (k n : Nat) (v : Value) (xs : List Value) (w' : World) : Prop :=
  ∃ v', Blk w' k 121 #[v'] ∧ w'.ownsRow 0 124 5 v' (n + 1) xs ∧ (v'.ownBlock = v.ownBlock ∨ ∃ g, v'.ownBlock = some g ∧ w.heap.size ≤ g) ∧ Only (fun b => b = k ∨ v.ownBlock = some b) w w'

set_option maxRecDepth 100000 in
theorem push_end {w w1 : World} {o1 o2 : Obj} {k n : Nat} {v v' : Value} {xs : List Value} (hk : Blk w k 121 #[v]) (hne : v.ownBlock ≠ some k) (hg : ((w.alloc o1).alloc o2).drew.grownBy w1 v.ownBlock)
    (ho : w1.ownsRow 0 124 5 v' (n + 1) xs) (hat : v'.ownBlock = v.ownBlock ∨ v'.ownBlock = some ((w.alloc o1).alloc o2).drew.heap.size) : Pushed w k n v xs (w1.setCell ⟨k, 0, none⟩ v') := by
  have hkl := hk.lt
  have hO : Only (fun b => b = k ∨ v.ownBlock = some b) w w1 := ((((Only.refl _ w).alloc o1).alloc o2).drew).trans (Only.of_grown hg (fun j hj => .inr hj))
  have hsz : ((w.alloc o1).alloc o2).drew.heap.size = w.heap.size + 1 + 1 := by simp
  have hk1 : Blk w1 k 121 #[v] := (hg.block k (by rw [hsz]; omega) (fun e => hne e.symm)).trans ((hk.alloc o1).alloc o2)
  have hne' : v'.ownBlock ≠ some k := by
    rcases hat with e | e
    · rw [e]; exact hne
    · rw [e, hsz]; intro e2; injection e2; omega
  refine ⟨v', hk1.set_ 0 v', ?_, ?_, hO.setCell (.inl (.inl rfl)) _⟩
  · refine Only.row ((Only.refl (· = k) w1).setCell (.inl rfl) v') ho ?_
    rintro g hg rfl
    exact hne' hg
  · rcases hat with e | e
    · exact .inl e
    · exact .inr ⟨_, e, by rw [hsz]; omega⟩

set_option maxRecDepth 100000 in
set_option maxHeartbeats 1000000 in
theorem push_core (k n : Nat) (q : List Cp) (a : Cp) (v : Value) (w : World) (hk : Blk w k 121 #[v]) (hown : w.ownsRow 0 124 5 v n (cellsOf q)) (hn : n ≤ 1000000) :
    Calls Tryd.prog 117 #[.pointer (some ⟨k, 0, none⟩), .iface 124 a.val] w fun e w' => e = .returned (.tuple #[]) ∧ Pushed w k n v (cellsOf (q ++ [a])) w' := by
  unfold Cp.val
  have hta := assert_cp
  obtain ⟨i0, hi, hz0, hz1, hz2⟩ := info_parts infoCp
  have hb : w.cell? ⟨k, 0, none⟩ = some v := hk.cell 0
  have hf : w.frozen? ⟨k, 0, none⟩ = false := hk.frozen 0
  have hkl := hk.lt
  have hne : v.ownBlock ≠ some k := by
    intro e
    have := hown.2
    rcases this with ⟨rfl, _⟩ | ⟨g', cap', cur, rfl, _, hh, _⟩
    · cases e
    · simp only [Value.ownBlock, Option.some.injEq] at e
      subst e
      exact Blk.ne_ (t := 124) hh hk (by decide) rfl
  have HR : Hid (∀ o : Obj, Reads ((w.alloc o).alloc (.cells #[.int .i64 a.at_, .int .i64 a.pk, .int .i64 a.ix, .string a.fr, .string a.da] 124)).drew (w.heap.size + 1 + 1) 5 (some ⟨w.heap.size + 1, 0, none⟩) 1 a.cells) := by
    intro o
    have := reads_alloc (w.alloc o) 124 a.cells.toArray 5 1 rfl
    simp only [World.size_alloc] at this
    exact this
  have HO := Lib.hid hown
  have HN := Lib.hid hne
  have HK := Lib.hid hk
  clear hk hown hne
  go_enter Tryd.func117, Tryd.ntmps117
  go_wp2
  go_region_law (refine step_append_any _ rfl (.tmp 15) (.tmp 17) 121 rfl 0 124 i0 _ 5 56 Tryd.underlying121 hi hz0 hz1 hz2 rfl (by omega) v n (cellsOf q) (by simp [Act.eval]) ((HO.out.alloc _).alloc _).drew _ (some ⟨w.heap.size + 1, 0, none⟩) 1 1 a.cells (by simp [Act.eval]) (HR.out _) (oneCell_cells a) (by unfold maxLen; omega) (by omega) (by omega) ?_; intro v' w1 hown' hgrow hat; obtain ⟨g', c', rfl, hg', hl'⟩ := hown'.form (by omega); have HO' := Lib.hid hown'; have HAT := Lib.hid hat; have HG := Lib.hid hgrow; have c1 : w1.cell? ⟨k, 0, none⟩ = some v := hgrow.cell (by go_simp) (fun e => HN.out e.symm); have f1 : w1.frozen? ⟨k, 0, none⟩ = false := (World.frozen?_of_block (hgrow.block k (by first | (go_simp; done) | (go_simp; omega)) (fun e => HN.out e.symm))).trans (by go_simp; done); clear hown' hat hgrow)
  all_goals
    go_wp2
    go_end0
    refine ⟨rfl, push_end HK.out HN.out HG.out ?_ HAT.out⟩
    rw [cellsOf_append, cellsOf_one]
    exact HO'.out

set_option maxRecDepth 100000 in
theorem pop_end {w : World} {k g n cap : Nat} {q : List Cp} (hk : Blk w k 121 #[.slice (some ⟨g, 0, none⟩) (n + 1) cap]) (h : w.ownsRow 0 124 5 (.slice (some ⟨g, 0, none⟩) (n + 1) cap) (n + 1) (cellsOf q)) (hq : q.length = n + 1) (o : Obj) :
    let w' := ((w.setCell ⟨k, 0, none⟩ (.slice (some ⟨g, 0, none⟩) n cap)).alloc o).drew.drew
    Blk w' k 121 #[.slice (some ⟨g, 0, none⟩) n cap] ∧ w'.ownsRow 0 124 5 (.slice (some ⟨g, 0, none⟩) n cap) n (cellsOf (q.take n)) ∧ Only (· = k) w w' := by
  have hO : Only (· = k) w ((w.setCell ⟨k, 0, none⟩ (.slice (some ⟨g, 0, none⟩) n cap)).alloc o).drew.drew := ((((Only.refl (· = k) w).setCell (p := ⟨k, 0, none⟩) (.inl rfl) _).alloc o).drew).drew
  have hgk : g ≠ k := by
    rcases h.2 with ⟨h1, _⟩ | ⟨g', cap', cur, hv, hb, hh, hnc, hm, hs, ht⟩
    · cases h1
    · simp only [Value.slice.injEq, Option.some.injEq, Addr.mk.injEq, and_true] at hv
      obtain ⟨rfl, _, rfl⟩ := hv
      exact Blk.ne_ (t := 124) hh hk (by decide)
  refine ⟨(hk.set_ 0 _).alloc o, ?_, hO⟩
  have h0 : w.ownsRow 0 124 5 (.slice (some ⟨g, 0, none⟩) n cap) n (cellsOf (q.take n)) := by
    refine ⟨by rw [cellsOf_len]; simp [hq], ?_⟩
    rcases h.2 with ⟨h1, _⟩ | ⟨g', cap', cur, hv, hb, hh, hnc, hm, hs, ht⟩
    · cases h1
    · simp only [Value.slice.injEq, Option.some.injEq, Addr.mk.injEq, and_true] at hv
      obtain ⟨rfl, _, rfl⟩ := hv
      refine .inr ⟨g, cap, cur, rfl, hb, hh, by omega, hm, hs, ?_⟩
      rw [← cellsOf_take, ← ht, List.take_take]
      congr 1
      omega
  refine hO.row h0 ?_
  rintro g' hg' rfl
  simp only [Value.ownBlock, Option.some.injEq] at hg'
  exact hgk hg'

set_option maxRecDepth 100000 in
set_option maxHeartbeats 1000000 in
theorem pop_core (k g n cap : Nat) (a : Cp) (w : World) (_hn : n + 1 ≤ maxLen) (hc : n + 1 ≤ cap) (hk : k < w.heap.size) (hg : g < w.heap.size)
    (hb : w.cell? ⟨k, 0, none⟩ = some (.slice (some ⟨g, 0, none⟩) (n + 1) cap)) (hf : w.frozen? ⟨k, 0, none⟩ = false)
    (ha0 : w.cell? ⟨g, n * 5, none⟩ = some (.int .i64 a.at_)) (ha1 : w.cell? ⟨g, n * 5 + 1, none⟩ = some (.int .i64 a.pk)) (ha2 : w.cell? ⟨g, n * 5 + 2, none⟩ = some (.int .i64 a.ix))
    (ha3 : w.cell? ⟨g, n * 5 + 3, none⟩ = some (.string a.fr)) (ha4 : w.cell? ⟨g, n * 5 + 4, none⟩ = some (.string a.da)) :
    Calls Tryd.prog 116 #[.pointer (some ⟨k, 0, none⟩)] w fun e w' => e = .returned (.iface 124 a.val) ∧
       w' = ((w.setCell ⟨k, 0, none⟩ (.slice (some ⟨g, 0, none⟩) n cap)).alloc (.cells a.cells.toArray 124)).drew.drew := by
  unfold maxLen at _hn
  go_enter Tryd.func116, Tryd.ntmps116
  go_wp2
  go_region
  all_goals go_wp2
  all_goals go_region
  all_goals go_wp2
  all_goals go_ret
  all_goals exact ⟨rfl, rfl⟩

set_option maxRecDepth 100000 in
theorem pop_q (k g n cap : Nat) (q : List Cp) (w : World) (hk : Blk w k 121 #[.slice (some ⟨g, 0, none⟩) (n + 1) cap]) (h : w.ownsRow 0 124 5 (.slice (some ⟨g, 0, none⟩) (n + 1) cap) (n + 1) (cellsOf q)) (hq : q.length = n + 1) :
    Calls Tryd.prog 116 #[.pointer (some ⟨k, 0, none⟩)] w fun e w' => e = .returned (.iface 124 (q.getD n default).val) ∧
      Blk w' k 121 #[.slice (some ⟨g, 0, none⟩) n cap] ∧ w'.ownsRow 0 124 5 (.slice (some ⟨g, 0, none⟩) n cap) n (cellsOf (q.take n)) ∧ Only (· = k) w w' := by
  have hc := row_cap h
  refine (pop_core k g n cap (q.getD n default) w (by omega) hc.1 hk.lt (row_lt h) (hk.cell 0) (hk.frozen 0) (row_cell h hq (by omega) (t := 0) (by omega)) (row_cell h hq (by omega) (t := 1) (by omega)) (row_cell h hq (by omega) (t := 2) (by omega)) (row_cell h hq (by omega) (t := 3) (by omega)) (row_cell h hq (by omega) (t := 4) (by omega))).mono ?_
  rintro e w' ⟨rfl, rfl⟩
  exact ⟨rfl, pop_end hk h hq _⟩

end Go.Proofs.YthmndclmecnpmaaDoor.Nw
