/- The walks of the queue's methods: Less, Swap, Len, Pop, Push. -/
import Derived.Test.YthmndclmecnpmaaDoorWNetA
import Derived.Test.YthmndclmecnpmaaDoorWHeap
import Derived.Deep.RegionHeld3
import Derived.Deep.RegionLaw
import Derived.BigRegion
namespace Go.Proofs.YthmndclmecnpmaaDoor.Nw
open Go.RowKit

set_option maxRecDepth 100000 in
/-- The cell of a queue's row. -/
theorem row_cell {w : World} {g n cap : Nat} {q : List Cp} (h : w.ownsRow 0 124 5 (.slice (some ⟨g, 0, none⟩) n cap) n (cellsOf q)) (hn : q.length = n) {i : Nat} (hi : i < n) {t : Nat} (ht : t < 5) :
    w.cell? ⟨g, i * 5 + t, none⟩ = (q.getD i default).cells[t]? := by
  have hx := cellsOf_get q i t ht (by omega)
  have hlen : i * 5 + t < (cellsOf q).length := by rw [cellsOf_len]; omega
  have hv : (cellsOf q)[i * 5 + t]? = some ((cellsOf q)[i * 5 + t]) := List.getElem?_eq_getElem hlen
  have := h.cells (g := g) rfl (i * 5 + t) _ hv
  rw [← hx, hv, ← this]
  congr 1
  unfold Addr.add
  split <;> simp_all

set_option maxRecDepth 100000 in
theorem row_lt {w : World} {g n cap m : Nat} {xs : List Value} (h : w.ownsRow 0 124 5 (.slice (some ⟨g, 0, none⟩) n cap) m xs) : g < w.heap.size := (h.lt g rfl).2

set_option maxRecDepth 100000 in
theorem row_cap {w : World} {g n cap m : Nat} {xs : List Value} (h : w.ownsRow 0 124 5 (.slice (some ⟨g, 0, none⟩) n cap) m xs) : n ≤ cap ∧ cap ≤ maxLen := by
  rcases h.2 with ⟨h1, _⟩ | ⟨g', cap', cur, hv, hb, hh, hnc, hm, hs, ht⟩
  · cases h1
  · simp only [Value.slice.injEq, Option.some.injEq, Addr.mk.injEq, and_true] at hv
    obtain ⟨rfl, rfl, rfl⟩ := hv
    exact ⟨hnc, hm⟩

set_option maxRecDepth 100000 in
set_option maxHeartbeats 400000 in
theorem less_core (g n cap : Nat) (i j : Nat) (a0 a1 a2 b0 b1 b2 : Int) (a3 a4 b3 b4 : ByteArray) (w : World) (_hn : n ≤ maxLen) (hi : i < n) (hj : j < n) (hg : g < w.heap.size)
    (ha0 : w.cell? ⟨g, i * 5, none⟩ = some (.int .i64 a0)) (ha1 : w.cell? ⟨g, i * 5 + 1, none⟩ = some (.int .i64 a1)) (ha2 : w.cell? ⟨g, i * 5 + 2, none⟩ = some (.int .i64 a2))
    (ha3 : w.cell? ⟨g, i * 5 + 3, none⟩ = some (.string a3)) (ha4 : w.cell? ⟨g, i * 5 + 4, none⟩ = some (.string a4))
    (hb0 : w.cell? ⟨g, j * 5, none⟩ = some (.int .i64 b0)) (hb1 : w.cell? ⟨g, j * 5 + 1, none⟩ = some (.int .i64 b1)) (hb2 : w.cell? ⟨g, j * 5 + 2, none⟩ = some (.int .i64 b2))
    (hb3 : w.cell? ⟨g, j * 5 + 3, none⟩ = some (.string b3)) (hb4 : w.cell? ⟨g, j * 5 + 4, none⟩ = some (.string b4)) :
    Calls Tryd.prog 115 #[.slice (some ⟨g, 0, none⟩) n cap, .int .i64 i, .int .i64 j] w fun e w' => e = .returned (.bool (ltI a0 a1 a2 b0 b1 b2)) ∧ Below w.heap.size w w' := by
  unfold maxLen at _hn
  go_enter Tryd.func115, Tryd.ntmps115
  go_wp2
  go_region
  all_goals
    go_wp2
    (refine wp_region_still_tail 15 (by kernel_rfl) (by kernel_rfl) ?_
     simp only [List.take_succ_cons, List.take_zero, List.drop_succ_cons, List.drop_zero])
    change wpStill _ _ (World.drew _) _ _ _
    repeat still_step
    still_call (compare_still _ _ _)
    repeat still_step
    still_call (compare_still _ _ _)
    repeat still_step
    still_call (compare_still _ _ _)
    repeat still_step
    refine wpStill_nil ?_
    change wpList _ _ _ _ _ (World.drew _)
    go_wp2_with (go_at_call 119; refine (or_any (cmpI a0 b0) (cmpI a1 b1) (cmpI a2 b2) _ _ (by go_simp) (by go_simp) (by go_simp)).mono ?_; rintro e w' ⟨rfl, rfl⟩)
    go_ret
    exact ⟨ret_bool (by exact ltI_cmp _ _ _ _ _ _), (((((Below.refl _ _).alloc (Nat.le_refl _) _).alloc (by simp) _).drew).alloc (by simp; omega) _).drew⟩

set_option maxRecDepth 100000 in
theorem less_q (g n cap : Nat) (q : List Cp) (i j : Int) (w : World) (h : w.ownsRow 0 124 5 (.slice (some ⟨g, 0, none⟩) n cap) n (cellsOf q)) (hn : q.length = n) (i0 : 0 ≤ i) (hi : i < n) (j0 : 0 ≤ j) (hj : j < n) :
    Calls Tryd.prog 115 #[.slice (some ⟨g, 0, none⟩) n cap, .int .i64 i, .int .i64 j] w fun e w' => e = .returned (.bool (Cp.lt (gq q i.toNat) (gq q j.toNat))) ∧ Below w.heap.size w w' := by
  obtain ⟨i, rfl⟩ := Int.eq_ofNat_of_zero_le i0
  obtain ⟨j, rfl⟩ := Int.eq_ofNat_of_zero_le j0
  have hi' : i < n := by omega
  have hj' : j < n := by omega
  have hc := row_cap h
  exact less_core g n cap i j _ _ _ _ _ _ _ _ _ _ w (by omega) hi' hj' (row_lt h) (row_cell h hn hi' (t := 0) (by omega)) (row_cell h hn hi' (t := 1) (by omega)) (row_cell h hn hi' (t := 2) (by omega)) (row_cell h hn hi' (t := 3) (by omega)) (row_cell h hn hi' (t := 4) (by omega))
    (row_cell h hn hj' (t := 0) (by omega)) (row_cell h hn hj' (t := 1) (by omega)) (row_cell h hn hj' (t := 2) (by omega)) (row_cell h hn hj' (t := 3) (by omega)) (row_cell h hn hj' (t := 4) (by omega))

set_option maxRecDepth 100000 in
set_option maxHeartbeats 1000000 in
theorem swap_ne (g n cap : Nat) (i j : Nat) (a b : Cp) (w : World) (_hn : n ≤ maxLen) (hi : i < n) (hj : j < n) (hij : i ≠ j)
    (ha0 : w.cell? ⟨g, i * 5, none⟩ = some (.int .i64 a.at_)) (ha1 : w.cell? ⟨g, i * 5 + 1, none⟩ = some (.int .i64 a.pk)) (ha2 : w.cell? ⟨g, i * 5 + 2, none⟩ = some (.int .i64 a.ix))
    (ha3 : w.cell? ⟨g, i * 5 + 3, none⟩ = some (.string a.fr)) (ha4 : w.cell? ⟨g, i * 5 + 4, none⟩ = some (.string a.da))
    (hb0 : w.cell? ⟨g, j * 5, none⟩ = some (.int .i64 b.at_)) (hb1 : w.cell? ⟨g, j * 5 + 1, none⟩ = some (.int .i64 b.pk)) (hb2 : w.cell? ⟨g, j * 5 + 2, none⟩ = some (.int .i64 b.ix))
    (hb3 : w.cell? ⟨g, j * 5 + 3, none⟩ = some (.string b.fr)) (hb4 : w.cell? ⟨g, j * 5 + 4, none⟩ = some (.string b.da)) (hf : ∀ k, w.frozen? ⟨g, k, none⟩ = false) :
    Calls Tryd.prog 118 #[.slice (some ⟨g, 0, none⟩) n cap, .int .i64 i, .int .i64 j] w fun e w' => e = .returned (.tuple #[]) ∧ w' = (setCp (setCp w g (i * 5) b) g (j * 5) a).drew := by
  unfold maxLen at _hn
  go_enter Tryd.func118, Tryd.ntmps118
  go_wp2
  go_region
  all_goals go_end0
  all_goals exact ⟨rfl, rfl⟩

set_option maxRecDepth 100000 in
set_option maxHeartbeats 1000000 in
theorem swap_eq (g n cap : Nat) (i : Nat) (a : Cp) (w : World) (_hn : n ≤ maxLen) (hi : i < n)
    (ha0 : w.cell? ⟨g, i * 5, none⟩ = some (.int .i64 a.at_)) (ha1 : w.cell? ⟨g, i * 5 + 1, none⟩ = some (.int .i64 a.pk)) (ha2 : w.cell? ⟨g, i * 5 + 2, none⟩ = some (.int .i64 a.ix))
    (ha3 : w.cell? ⟨g, i * 5 + 3, none⟩ = some (.string a.fr)) (ha4 : w.cell? ⟨g, i * 5 + 4, none⟩ = some (.string a.da)) (hf : ∀ k, w.frozen? ⟨g, k, none⟩ = false) :
    Calls Tryd.prog 118 #[.slice (some ⟨g, 0, none⟩) n cap, .int .i64 i, .int .i64 i] w fun e w' => e = .returned (.tuple #[]) ∧ w' = (setCp (setCp w g (i * 5) a) g (i * 5) a).drew := by
  unfold maxLen at _hn
  go_enter Tryd.func118, Tryd.ntmps118
  go_wp2
  go_region
  all_goals go_end0
  all_goals exact ⟨rfl, rfl⟩

set_option maxRecDepth 100000 in
theorem setCp_only (F : Nat → Prop) (w : World) (g k : Nat) (c : Cp) (hg : F g) : Only F w (setCp w g k c) :=
  (((((Only.refl F w).setCell (.inl hg) _).setCell (.inl hg) _).setCell (.inl hg) _).setCell (.inl hg) _).setCell (.inl hg) _

set_option maxRecDepth 100000 in
theorem row_frozen {w : World} {g n cap m : Nat} {xs : List Value} (h : w.ownsRow 0 124 5 (.slice (some ⟨g, 0, none⟩) n cap) m xs) (k : Nat) : w.frozen? ⟨g, k, none⟩ = false := by
  rcases h.2 with ⟨h1, _⟩ | ⟨g', cap', cur, hv, hb, hh, hnc, hm, hs, ht⟩
  · cases h1
  · simp only [Value.slice.injEq, Option.some.injEq, Addr.mk.injEq, and_true] at hv
    obtain ⟨rfl, rfl, rfl⟩ := hv
    exact Blk.frozen (t := 124) hh k

set_option maxRecDepth 100000 in
theorem swap_q (g n cap : Nat) (q : List Cp) (i j : Int) (w : World) (h : w.ownsRow 0 124 5 (.slice (some ⟨g, 0, none⟩) n cap) n (cellsOf q)) (hn : q.length = n) (i0 : 0 ≤ i) (hi : i < n) (j0 : 0 ≤ j) (hj : j < n) :
    Calls Tryd.prog 118 #[.slice (some ⟨g, 0, none⟩) n cap, .int .i64 i, .int .i64 j] w fun e w' => e = .returned (.tuple #[]) ∧
      w'.ownsRow 0 124 5 (.slice (some ⟨g, 0, none⟩) n cap) n (cellsOf (swapQ q i.toNat j.toNat)) ∧ Only (· = g) w w' := by
  obtain ⟨i, rfl⟩ := Int.eq_ofNat_of_zero_le i0
  obtain ⟨j, rfl⟩ := Int.eq_ofNat_of_zero_le j0
  have hi' : i < n := by omega
  have hj' : j < n := by omega
  have hc := row_cap h
  have hend : ∀ w', w' = (setCp (setCp w g (i * 5) (q.getD j default)) g (j * 5) (q.getD i default)).drew →
      w'.ownsRow 0 124 5 (.slice (some ⟨g, 0, none⟩) n cap) n (cellsOf (swapQ q i j)) ∧ Only (· = g) w w' := by
    rintro w' rfl
    have o1 := setCp_only (· = g) w g (i * 5) (q.getD j default) rfl
    have o2 := setCp_only (· = g) (setCp w g (i * 5) (q.getD j default)) g (j * 5) (q.getD i default) rfl
    refine ⟨?_, (o1.trans o2).drew⟩
    have r1 := row_set (i := i) h hn hi' (q.getD j default)
    have r2 := row_set (i := j) r1 (by simp [hn]) hj' (q.getD i default)
    exact r2.drew
  by_cases e : i = j
  · subst e
    refine (swap_eq g n cap i (q.getD i default) w (by omega) hi' (row_cell h hn hi' (t := 0) (by omega)) (row_cell h hn hi' (t := 1) (by omega)) (row_cell h hn hi' (t := 2) (by omega)) (row_cell h hn hi' (t := 3) (by omega)) (row_cell h hn hi' (t := 4) (by omega)) (row_frozen h)).mono ?_
    rintro e' w' ⟨rfl, hw⟩
    exact ⟨rfl, hend w' hw⟩
  · refine (swap_ne g n cap i j (q.getD i default) (q.getD j default) w (by omega) hi' hj' e (row_cell h hn hi' (t := 0) (by omega)) (row_cell h hn hi' (t := 1) (by omega)) (row_cell h hn hi' (t := 2) (by omega)) (row_cell h hn hi' (t := 3) (by omega)) (row_cell h hn hi' (t := 4) (by omega))
      (row_cell h hn hj' (t := 0) (by omega)) (row_cell h hn hj' (t := 1) (by omega)) (row_cell h hn hj' (t := 2) (by omega)) (row_cell h hn hj' (t := 3) (by omega)) (row_cell h hn hj' (t := 4) (by omega)) (row_frozen h)).mono ?_
    rintro e' w' ⟨rfl, hw⟩
    exact ⟨rfl, hend w' hw⟩

set_option maxRecDepth 100000 in
set_option maxHeartbeats 400000 in
theorem len_q (A : Option Addr) (n cap : Nat) (w : World) :
    Calls Tryd.prog 66 #[.slice A n cap] w fun e w' => e = .returned (.int .i64 n) ∧ w = w' := by
  go_enter Tryd.func66, Tryd.ntmps66
  go_wp2
  go_ret
  exact ⟨rfl, rfl⟩

end Go.Proofs.YthmndclmecnpmaaDoor.Nw
