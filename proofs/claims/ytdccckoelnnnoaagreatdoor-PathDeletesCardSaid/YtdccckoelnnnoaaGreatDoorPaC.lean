/- Path: Covers (the package's, the reference's), same. (printed by gen_pac.py) -/
import Derived.Test.YtdccckoelnnnoaaGreatDoorPaL
namespace Go.Proofs.YtdccckoelnnnoaaGreatDoor
open Go.RowKit
attribute [local go_sem ↓] Go.wp_at_zero Go.wp_at_succ

def coverB (a b : Pt) : Bool := decide (a = b) || (decide (a.kind = 3) && decide (a.idx = 0) && decide (a.name.size = 0) && decide (b.kind = 2))
/-- The first parts cover one another. -/
def CovTo (a b : List Pt) (j : Nat) : Prop := ∀ i x y, i < j → a[i]? = some x → b[i]? = some y → coverB x y = true
def coversL : List Pt → List Pt → Bool
  | [], _ => true
  | _ :: _, [] => false
  | x :: a, y :: b => coverB x y && coversL a b
theorem coversL_len : ∀ (a b : List Pt), b.length < a.length → coversL a b = false
  | [], b, h => by simp at h
  | x :: a, [], h => rfl
  | x :: a, y :: b, h => by
    have := coversL_len a b (by simpa using h)
    unfold coversL
    rw [this, Bool.and_false]
theorem coversL_no : ∀ (a b : List Pt) (i : Nat) (x y : Pt), a[i]? = some x → b[i]? = some y → coverB x y = false → coversL a b = false
  | [], b, i, x, y, h, _, _ => by simp at h
  | p :: a, [], i, x, y, _, h, _ => by simp at h
  | p :: a, q :: b, 0, x, y, h1, h2, h => by
    simp at h1 h2
    subst h1; subst h2
    unfold coversL
    rw [h, Bool.false_and]
  | p :: a, q :: b, i + 1, x, y, h1, h2, h => by
    unfold coversL
    rw [coversL_no a b i x y (by simpa using h1) (by simpa using h2) h, Bool.and_false]
theorem coversL_yes : ∀ (a b : List Pt), a.length ≤ b.length → CovTo a b a.length → coversL a b = true
  | [], b, _, _ => by unfold coversL; rfl
  | p :: a, [], h, _ => by simp at h
  | p :: a, q :: b, h, hc => by
    unfold coversL
    rw [hc 0 p q (by simp) rfl rfl, coversL_yes a b (by simpa using h) (fun i x y hi h1 h2 => hc (i + 1) x y (by simpa using hi) (by simpa using h1) (by simpa using h2))]
    rfl
theorem CovTo.next {a b : List Pt} {j : Nat} {x y : Pt} (h : CovTo a b j) (h1 : a[j]? = some x) (h2 : b[j]? = some y) (hc : coverB x y = true) : CovTo a b (j + 1) := by
  intro i u v hi hu hv
  by_cases e : i = j
  · subst e
    rw [h1] at hu; rw [h2] at hv
    injection hu with hu; injection hv with hv
    subst hu; subst hv
    exact hc
  · exact h i u v (by omega) hu hv
theorem toList_ne {a b : ByteArray} (h : ¬ a = b) : (a.toList == b.toList) = false := by
  have : ¬ a.toList = b.toList := fun e => h (str_ext (by rw [toList_data, toList_data] at e; exact e))
  simpa using this
theorem nil_ne {b : ByteArray} (h : ¬ (⟨#[]⟩ : ByteArray) = b) : ¬ b.size = 0 := fun e => h (size_zero e).symm
theorem nil_toList : ByteArray.toList ⟨#[]⟩ = [] := by rw [toList_data]

theorem nil_eq_ne {b : ByteArray} (h : ¬ b.size = 0) : ¬ ([] : List UInt8) = b.toList := fun e => ne_nil2 h e.symm

end Go.Proofs.YtdccckoelnnnoaaGreatDoor
