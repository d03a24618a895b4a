/- The walk of New. -/
import Derived.Test.YthmndclmecnpmaaDoorWNetX
namespace Go.Proofs.YthmndclmecnpmaaDoor.Nw
open Go.RowKit Go.Maps

/-- A new network. -/
def newNet (script : List UInt8) : NetS := ⟨script, 0, 0, 0, 0, [], fun _ => [], fun _ _ => false, 0⟩

set_option maxRecDepth 100000 in
theorem row_form {w : World} {base : Nat} {e : TypeId} {size n : Nat} {v : Value} {xs : List Value} (h : w.ownsRow base e size v n xs) : ∃ A cap, v = .slice A n cap := by
  rcases h.2 with ⟨hv, h0⟩ | ⟨g, cap, cur, hv, _⟩
  · exact ⟨none, 0, by rw [h0]; exact hv⟩
  · exact ⟨_, _, hv⟩

set_option maxRecDepth 100000 in
theorem newParts {w w' : World} {sv : Value} {script : List UInt8} {B : Nat} {mT mC N n : Nat} (hn : n = script.length) (hr : w'.ownsRow B 5 1 sv n (byteVals script)) (hB : w.heap.size ≤ B)
    (hN : Blk w' N 108 #[sv, .int .i64 0, .int .i64 0, .int .i64 0, .int .i64 0, .map (some mT), .map (some mC)]) (hT : w'.ownsMap Tryd.prog 9 ptrElem mT 0 (.map [])) (hC : w'.ownsMap Tryd.prog 114 (plainElem Tryd.prog 4) mC 0 (.map [] : DataW Unit))
    (h1 : w.heap.size ≤ N) (h2 : w.heap.size ≤ mT) (h3 : w.heap.size ≤ mC) (htc : mT ≠ mC) : NetAt w' (fun b => w.heap.size ≤ b ∧ b < w'.heap.size) N (newNet script) := by
  subst hn
  refine (NetAt.bound (F := fun b => w.heap.size ≤ b) ⟨sv, mT, mC, 0, 0, .map [], .map [], fun _ => 0, fun _ _ => False, ?_⟩).mono (fun b hb => hb)
  refine ⟨hN, h1, h2, h3, ⟨hr.1, ?_⟩, fun g e => Nat.le_trans hB (hr.lt g e).1, hT, hC, Nat.le_refl _, Nat.le_refl _, htc, Nat.zero_le _, ?_, List.nodup_nil, ?_, ?_, ?_, ?_, ?_, ?_, ?_⟩
  · rcases hr.2 with h | ⟨g, cap, cur, hv, _, hh, r⟩
    · exact .inl h
    · exact .inr ⟨g, cap, cur, hv, Nat.zero_le _, hh, r⟩
  · intro s
    simp [Maps.has, newNet]
  · intro s hs; simp [newNet] at hs
  · intro s hs; simp [newNet] at hs
  · intro s hs; simp [newNet] at hs
  · intro s _; rfl
  · intro s b hb; exact hb.elim
  · intro s t b _ hb; exact hb.elim
  · intro a b _ _
    rfl

set_option maxRecDepth 100000 in
set_option maxHeartbeats 1000000 in
theorem new_nil (w : World) : Calls Tryd.prog 39 #[.slice none 0 0] w fun e w' => ∃ N, e = .returned (.pointer (some ⟨N, 0, none⟩)) ∧ NetAt w' (fun b => w.heap.size ≤ b ∧ b < w'.heap.size) N (newNet []) ∧ Only Nobody w w' := by
  have hmm := @run_makeMap Tryd.prog
  go_enter Tryd.func39, Tryd.ntmps39
  go_wp2_with fail
  refine (clone_nil w).mono ?_
  rintro e w' ⟨rfl, rfl⟩
  go_wp2_with fail
  go_ret
  refine ⟨_, rfl, ?_, (((Only.refl _ w).alloc _).alloc _).alloc _⟩
  have hN := Blk.new ((w.alloc (.map #[] 0)).alloc (.map #[] 0)) 108 #[.slice none 0 0, .int .i64 0, .int .i64 0, .int .i64 0, .int .i64 0, .map (some w.heap.size), .map (some (w.heap.size + 1))]
  simp only [World.size_alloc] at hN ⊢
  have hT := ((World.ownsMap_made (H := Unit) w Tryd.prog 9 ptrElem).alloc (.map #[] 0)).alloc (.cells #[.slice none 0 0, .int .i64 0, .int .i64 0, .int .i64 0, .int .i64 0, .map (some w.heap.size), .map (some (w.heap.size + 1))] 108)
  have hC := (World.ownsMap_made (H := Unit) (w.alloc (.map #[] 0)) Tryd.prog 114 (plainElem Tryd.prog 4)).alloc (.cells #[.slice none 0 0, .int .i64 0, .int .i64 0, .int .i64 0, .int .i64 0, .map (some w.heap.size), .map (some (w.heap.size + 1))] 108)
  simp only [World.size_alloc] at hC
  have := newParts (w := w) (script := []) (B := w.heap.size) rfl (World.ownsRow_nil _ _ _ _) (Nat.le_refl _) hN hT hC (by omega) (by omega) (by omega) (by omega)
  simpa only [World.size_alloc] using this

set_option maxRecDepth 100000 in
theorem byteVals_one (l : List UInt8) : ∀ u ∈ byteVals l, u.oneCell' = true := by
  intro u hu
  simp only [byteVals, List.mem_map] at hu
  obtain ⟨b, _, rfl⟩ := hu
  rfl

set_option maxRecDepth 100000 in
set_option maxHeartbeats 1000000 in
theorem new_some (ad : Addr) (n c : Nat) (script : List UInt8) (w : World) (h : Reads w w.heap.size 1 (some ad) n (byteVals script)) (hn : n ≤ 140737488355328) :
    Calls Tryd.prog 39 #[.slice (some ad) n c] w fun e w' => ∃ N, e = .returned (.pointer (some ⟨N, 0, none⟩)) ∧ NetAt w' (fun b => w.heap.size ≤ b ∧ b < w'.heap.size) N (newNet script) ∧ Only Nobody w w' := by
  have hmm := @run_makeMap Tryd.prog
  have hl : n = script.length := by have := h.1; simpa [byteVals] using this.symm
  have HL := Lib.hid hl
  have H := Lib.hid h
  clear h hl
  go_enter Tryd.func39, Tryd.ntmps39
  go_wp2_with fail
  refine (clone_any ad n c _ w H.out (byteVals_one script) (by unfold maxLen; omega) (by omega)).mono ?_
  rintro e w1 ⟨v, rfl, hr, hb⟩
  obtain ⟨A', cap', rfl⟩ := row_form hr
  have HR := Lib.hid hr
  have HB := Lib.hid hb
  clear hr hb
  go_wp2_with fail
  go_ret
  refine ⟨_, rfl, ?_, (((Only.of_below HB.out Nobody).alloc _).alloc _).alloc _⟩
  have hN := Blk.new ((w1.alloc (.map #[] 0)).alloc (.map #[] 0)) 108 #[.slice A' n cap', .int .i64 0, .int .i64 0, .int .i64 0, .int .i64 0, .map (some w1.heap.size), .map (some (w1.heap.size + 1))]
  simp only [World.size_alloc] at hN ⊢
  have hT := ((World.ownsMap_made (H := Unit) w1 Tryd.prog 9 ptrElem).alloc (.map #[] 0)).alloc (.cells #[.slice A' n cap', .int .i64 0, .int .i64 0, .int .i64 0, .int .i64 0, .map (some w1.heap.size), .map (some (w1.heap.size + 1))] 108)
  have hC := (World.ownsMap_made (H := Unit) (w1.alloc (.map #[] 0)) Tryd.prog 114 (plainElem Tryd.prog 4)).alloc (.cells #[.slice A' n cap', .int .i64 0, .int .i64 0, .int .i64 0, .int .i64 0, .map (some w1.heap.size), .map (some (w1.heap.size + 1))] 108)
  simp only [World.size_alloc] at hC
  have hr := HR.out
  have hs := HB.out.size
  have := newParts (w := w) (script := script) (B := w.heap.size) HL.out (((hr.alloc _).alloc _).alloc _) (Nat.le_refl _) hN hT hC (by omega) (by omega) (by omega) (by omega)
  simpa only [World.size_alloc] using this

end Go.Proofs.YthmndclmecnpmaaDoor.Nw
