/- Values: rows of values in a block of one's own. -/
import Derived.Test.YtdccckoelnnnoaaDoorVaA
namespace Go.Proofs.YtdccckoelnnnoaaDoor
open Go.RowKit

/-- A reading that speaks of the blocks of a set alone. -/
structure Rd {α β : Type} (R : World → (Nat → Prop) → α → β → Prop) : Prop where
  keep : ∀ {w w' : World} {S F : Nat → Prop} {a : α} {b : β}, R w S a b → Only F w w' → (∀ k, S k → ¬ F k) → R w' S a b
  mono : ∀ {w : World} {S S' : Nat → Prop} {a : α} {b : β}, R w S a b → (∀ k, k < w.heap.size → S k → S' k) → R w S' a b
def RV (n : Nat) : World → (Nat → Prop) → VC → VT → Prop := fun w S c x => VAt w S n c x
def RF (n : Nat) : World → (Nat → Prop) → FC → ByteArray × VT → Prop := fun w S c x => c.n = x.1 ∧ VAt w S n c.v x.2
theorem rdV (n : Nat) : Rd (RV n) := ⟨fun h ho hs => VAt.keep h ho hs, fun h hs => VAt.mono h hs⟩
theorem rdF (n : Nat) : Rd (RF n) := ⟨fun h ho hs => ⟨h.1, VAt.keep h.2 ho hs⟩, fun h hs => ⟨h.1, VAt.mono h.2 hs⟩⟩
/-- A row that the call has made behind block lo, and what its elements read as, through no block of the row. -/
def OwnG {α β : Type} (g : α → List Value) (k : Nat) (t : TypeId) (R : World → (Nat → Prop) → α → β → Prop) (w : World) (lo : Nat) (sv : Value) (L : List β) : Prop :=
  ∃ V : List α, w.ownsRow lo t k sv L.length (cells g V) ∧ All2 (R w (fun b => lo ≤ b ∧ sv.ownBlock ≠ some b)) V L
section
variable {α β : Type} {g : α → List Value} {k : Nat} {t : TypeId} {R : World → (Nat → Prop) → α → β → Prop} {w w' : World} {lo : Nat} {sv : Value} {L : List β}
theorem OwnG.nil_ : OwnG g k t R w lo (.slice none 0 0) ([] : List β) := ⟨[], ⟨by simp [cells], .inl ⟨rfl, rfl⟩⟩, All2.nil_⟩
theorem OwnG.form (h : OwnG g k t R w lo sv L) : ∃ A c, sv = .slice A L.length c := by
  obtain ⟨V, h1, _⟩ := h
  exact own_form h1
theorem OwnG.lt (h : OwnG g k t R w lo sv L) : ∀ b, sv.ownBlock = some b → lo ≤ b ∧ b < w.heap.size := by
  obtain ⟨V, h1, _⟩ := h
  exact h1.lt
theorem OwnG.keep (hR : Rd R) (h : OwnG g k t R w lo sv L) {F : Nat → Prop} (ho : Only F w w') (hF : ∀ b, F b → b < lo) : OwnG g k t R w' lo sv L := by
  obtain ⟨V, h1, h2⟩ := h
  refine ⟨V, ho.row h1 (fun b e hf => ?_), h2.imp fun _ _ h => hR.keep h ho fun b hb hf => ?_⟩
  · have := (h1.lt b e).1
    have := hF b hf
    omega
  · have := hF b hf
    omega
theorem OwnG.same (hR : Rd R) (h : OwnG g k t R w lo sv L) (ho : Only Nobody w w') : OwnG g k t R w' lo sv L := h.keep hR ho (fun _ x => x.elim)
/-- One more element, by the law of append. -/
theorem OwnG.snoc (hR : Rd R) {w3 w4 : World} {V : List α} {a : α} {b : β} {S : Nat → Prop} {v2 : Value}
    (h2 : All2 (R w3 (fun b => lo ≤ b ∧ sv.ownBlock ≠ some b)) V L)
    (hn : R w3 S a b) (hS : ∀ q, S q → lo ≤ q ∧ sv.ownBlock ≠ some q)
    (hown : w4.ownsRow lo t k v2 (L.length + 1) (cells g V ++ g a)) (hg : w3.grownBy w4 sv.ownBlock) (hat : v2.ownBlock = sv.ownBlock ∨ v2.ownBlock = some w3.heap.size) : OwnG g k t R w4 lo v2 (L ++ [b]) := by
  have hO : Only (fun q => sv.ownBlock = some q) w3 w4 := Only.of_grown hg (fun _ e => e)
  have hm : ∀ q, q < w3.heap.size → (lo ≤ q ∧ sv.ownBlock ≠ some q) → (lo ≤ q ∧ sv.ownBlock ≠ some q ∧ v2.ownBlock ≠ some q) := fun q hq ⟨x, y⟩ => ⟨x, y, by
    rcases hat with e | e
    · rw [e]; exact y
    · rw [e]; intro e2; injection e2 with e2; omega⟩
  have hA : All2 (R w4 (fun b => lo ≤ b ∧ v2.ownBlock ≠ some b)) (V ++ [a]) (L ++ [b]) := by
    refine All2.app (h2.imp fun _ _ h => ?_) (All2.one ?_)
    · exact hR.mono (hR.keep (hR.mono h hm) hO (fun q hq => hq.2.1)) fun q _ hq => ⟨hq.1, hq.2.2⟩
    · exact hR.mono (hR.keep (hR.mono (hR.mono hn (fun q _ hq => hS q hq)) hm) hO (fun q hq => hq.2.1)) fun q _ hq => ⟨hq.1, hq.2.2⟩
  refine ⟨V ++ [a], ?_, hA⟩
  rw [List.length_append, cells_append]
  simpa [cells] using hown
theorem OwnG.row (hg : ∀ a, (g a).length = k) (hk : 0 < k) (hR : Rd R) {A : Option Addr} {c : Nat} (h : OwnG g k t R w lo (.slice A L.length c) L) : ∃ V, RowA g k w (fun b => lo ≤ b) A L.length V ∧ All2 (R w (fun b => lo ≤ b)) V L := by
  obtain ⟨V, h1, h2⟩ := h
  exact ⟨V, (RowA.of_own hg hk h1).mono (fun _ _ h => h.1), h2.imp fun _ _ h => hR.mono h (fun _ _ x => x.1)⟩
theorem OwnG.cap {A : Option Addr} {n c : Nat} (h : OwnG g k t R w lo (.slice A n c) L) : n = L.length ∧ n ≤ c := by
  obtain ⟨V, h1, _⟩ := h
  rcases h1.2 with ⟨e, h0⟩ | ⟨q, cap, cur, e, _, _, hc, _⟩
  · injection e with e1 e2 e3
    omega
  · injection e with e1 e2 e3
    omega
end
def OwnV (n : Nat) := OwnG (β := VT) VC.vals 6 25 (RV n)
def OwnF (n : Nat) := OwnG (β := ByteArray × VT) FC.vals 7 72 (RF n)
theorem infoV : (Tryd.prog.info? 25).map (fun i => (i.zero, i.size, i.bytes)) = some (some (.agg #[.int .i64 0, .int .i64 0, .int .i64 0, .string ByteArray.empty, .slice none 0 0, .slice none 0 0]), 6, 88) := by kernel_rfl
theorem infoF : (Tryd.prog.info? 72).map (fun i => (i.zero, i.size, i.bytes)) = some (some (.agg #[.string ByteArray.empty, .int .i64 0, .int .i64 0, .int .i64 0, .string ByteArray.empty, .slice none 0 0, .slice none 0 0]), 7, 104) := by kernel_rfl
theorem one_v (v : VC) : ∀ u ∈ v.vals, u.oneCell' = true := by intro u hu; simp only [VC.vals, List.mem_cons, List.not_mem_nil, or_false] at hu; rcases hu with rfl | rfl | rfl | rfl | rfl | rfl <;> rfl
theorem one_f (f : FC) : ∀ u ∈ f.vals, u.oneCell' = true := by
  intro u hu
  simp only [FC.vals, List.mem_cons] at hu
  rcases hu with rfl | hu
  · rfl
  · exact one_v f.v u hu
theorem size_l (T : VT) : sizeL T.l ≤ T.size := by cases T; simp only [VT.size, VT.l]; omega
theorem size_f (T : VT) : sizeF T.f ≤ T.size := by cases T; simp only [VT.size, VT.f]; omega
end Go.Proofs.YtdccckoelnnnoaaDoor
