/- Network: contracts of the clones of slices and of a map. -/
import Derived.Test.YtbfkmdcjamillaaLkH
import Derived.Shelf.SlMaps.Clone
namespace Go.Proofs.Ytbfkmdcjamillaa
open Go.RowKit Go.Maps
attribute [local go_sem ↓] Go.wp_at_zero Go.wp_at_succ

/-- The script cloned, nil let in. -/
theorem clone_scr (v : Value) (n : Nat) (xs : List UInt8) (w : World) (h : w.ownsRow 0 5 1 v n (byteVals xs)) (hn : n ≤ 140737488355328) (hx : xs.length = n) :
    Calls Try.prog 33 #[v] w fun e w' => ∃ v', e = .returned v' ∧ w'.ownsRow w.heap.size 5 1 v' n (byteVals xs) ∧ Only Nobody w w' := by
  rcases h.2 with ⟨rfl, h0⟩ | ⟨g, cap, cur, rfl, _, hg, hc, hm, hs, ht⟩
  · refine (clone_nil w).mono ?_
    rintro e w' ⟨rfl, rfl⟩
    subst h0
    have : xs = [] := List.eq_nil_of_length_eq_zero hx
    subst this
    exact ⟨_, rfl, World.ownsRow_nil _ _ _ _, Only.refl _ _⟩
  · refine (clone_any _ n cap (byteVals xs) w (Reads.of_own h) (byteVals_one xs) (by omega) (by omega)).mono ?_
    rintro e w' ⟨v', rfl, h1, h2⟩
    exact ⟨v', rfl, h1, Only.of_below h2 Nobody⟩

set_option maxHeartbeats 400000 in
theorem cloneq_nil (w : World) :
    Calls Try.prog 43 #[.slice none 0 0] w fun e w' => e = .returned (.slice none 0 0) ∧ w = w' := by
  have hs := fun w => Lib.run_eql_slice_nil (P := Try.prog) w 66 64 none 0 0 0 0 Try.underlying66
  go_enter Try.func43, Try.ntmps43
  go_wp2
  go_ret
  exact ⟨rfl, rfl⟩
set_option maxHeartbeats 400000 in
theorem cloneq_some (ad : Addr) (n c : Nat) (xs : List Value) (w : World) (h : Reads w w.heap.size 5 (some ad) n xs) (h1 : ∀ u ∈ xs, u.oneCell' = true) (hn : n ≤ 1000000) :
    Calls Try.prog 43 #[.slice (some ad) n c] w fun e w' => ∃ v, e = .returned v ∧ w'.ownsRow w.heap.size 64 5 v n xs ∧ Only Nobody w w' := by
  have hs := fun w => run_eql_some_nil (P := Try.prog) w 66 64 ad n c Try.underlying66
  obtain ⟨i0, hi, hz0, hz1, hz2⟩ := info_parts infoCp
  go_enter Try.func43, Try.ntmps43
  have hA := Lib.hid (fun o : Obj => h.below (Below.refl _ w |>.alloc (Nat.le_refl _) o))
  have h1' := Lib.hid h1
  have HB : Hid (0 + n ≤ maxLen ∧ (0 + n) * 56 ≤ 140737488355328) := Lib.hid ⟨by unfold maxLen; omega, by omega⟩
  clear h h1
  go_wp2_with (at_builtin
               refine wpList_append_any _ rfl (.tmp 5) (.tmp 6) _ rfl w.heap.size 64 i0 _ 5 56 Try.underlying66 hi hz0 hz1 hz2 rfl (by omega) (.slice (some ⟨w.heap.size, 0, none⟩) 0 0) 0 [] rfl ⟨rfl, .inr ⟨w.heap.size, 0, #[], rfl, Nat.le_refl _, heap_alloc_new w _, Nat.le_refl _, by simp [maxLen], rfl, rfl⟩⟩ w.heap.size (some ad) n c xs rfl (hA.out _) h1'.out HB.out.1 HB.out.2 (by simp) ?_
               intro v1 w1 hown1 hg1 hat1
               have HO1 := Lib.hid hown1
               have HG1 := Lib.hid hg1
               clear hown1 hg1 hat1)
  go_ret
  refine ⟨v1, rfl, ?_, ?_⟩
  · have := HO1.out
    simpa using this
  · exact (Only.refl Nobody w).trans_more (((Only.refl (More Nobody w) w).alloc _).trans (Only.of_grown HG1.out (fun k e => .inr (by simp only [Value.ownBlock, Option.some.injEq] at e; omega))))
/-- A queue cloned. -/
theorem cloneq_any (v : Value) (q : List Cp) (w : World) (h : w.ownsRow 0 64 5 v q.length (cellsOf q)) (hn : q.length ≤ 1000000) :
    Calls Try.prog 43 #[v] w fun e w' => ∃ v', e = .returned v' ∧ w'.ownsRow w.heap.size 64 5 v' q.length (cellsOf q) ∧ Only Nobody w w' := by
  rcases h.2 with ⟨rfl, h0⟩ | ⟨g, cap, cur, rfl, _, hg, hc, hm, hs, ht⟩
  · refine (cloneq_nil w).mono ?_
    rintro e w' ⟨rfl, rfl⟩
    have : q = [] := List.eq_nil_of_length_eq_zero h0
    subst this
    exact ⟨_, rfl, World.ownsRow_nil _ _ _ _, Only.refl _ _⟩
  · exact cloneq_some _ _ cap (cellsOf q) w (Reads.of_own h) (fun u hu => by
      obtain ⟨c, _, hc⟩ := List.mem_flatMap.1 hu
      exact oneCell_cells c u hc) hn

set_option maxHeartbeats 1000000 in
/-- The map of the links cut, cloned. -/
theorem clonem_any {H : Type} (R : Value → Option (DataW H × List MemPlace)) (b n : Nat) (D : DataW H) (w : World) (hown : w.ownsMap Try.prog 71 R b n D) :
    Calls Try.prog 42 #[.map (some b)] w fun e w' => ∃ m, e = .returned (.map (some m)) ∧ w.heap.size ≤ m ∧ w'.ownsMap Try.prog 71 R m n D ∧ Only Nobody w w' := by
  obtain ⟨es, clock, hb, F, hs, hD⟩ := hown
  have hq := fun w => run_eql_map_nil_sl (P := Try.prog) w 59 _ _ (some b) Try.underlying59
  have key : Calls Try.prog 42 #[.map (some b)] w fun e w' => e = .returned (.map (some w.heap.size)) ∧ w' = w.alloc (.map es clock) := by
    clear hs hD
    go_enter Try.func42, Try.ntmps42
    go_wp2
    rw [run_callFunc_extern Try.func47 (by kernel_rfl) (by kernel_rfl) (by kernel_rfl) (e := Extern.MapsClone.clone) (by kernel_rfl), run_maps_clone_sl w 59 hb]
    simp only [Result.andThen]
    rw [Oper.upon_value]
    go_wp2
    rw [run_typeAssert_map_sl _ 59 20 _ _ _ Try.underlying59]
    simp only [Result.andThen]
    rw [Oper.upon_value]
    go_wp2
    go_ret
    exact ⟨rfl, rfl⟩
  refine key.mono fun e w' ⟨he, hw⟩ => ?_
  subst hw
  exact ⟨_, he, Nat.le_refl _, ⟨es, clock, (MapKept.heap_alloc w _).1, F, hs, hD⟩, (Only.refl _ _).alloc _⟩
end Go.Proofs.Ytbfkmdcjamillaa
