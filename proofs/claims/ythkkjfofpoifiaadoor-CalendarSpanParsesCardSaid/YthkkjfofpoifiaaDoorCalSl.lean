/- Calendar, plain: the length of a duration's text. -/
import Derived.Test.YthkkjfofpoifiaaDoorCalSp
namespace Go.Proofs.YthkkjfofpoifiaaDoor

theorem dec_len' (k u : Nat) (h : u < 10 ^ (k + 1)) : (Lib.decDigits u).length ≤ k + 1 := by
  rw [Lib.decDigits_length]
  exact (pad_dgs k u h).2
theorem len5 (t : Nat) : (spanGo (unitsL.drop 5) t).length = 0 := rfl
theorem len4 (t : Nat) (h : t < 1000) : (spanGo (unitsL.drop 4) t).length ≤ 5 := by
  rw [spanGo_4]
  split
  · rw [len5]; omega
  · have := dec_len' 2 (t / 1) (by omega)
    rw [List.length_append, List.length_append, len5]
    simp
    simp at this
    omega
theorem len3 (t : Nat) (h : t < 60000) : (spanGo (unitsL.drop 3) t).length ≤ 8 := by
  rw [spanGo_3]
  split
  · rename_i h0
    have := len4 t (by omega)
    omega
  · have h1 := dec_len' 1 (t / 1000) (by omega)
    have h2 := len4 (t % 1000) (by omega)
    rw [List.length_append, List.length_append, List.length_singleton]
    omega
theorem len2 (t : Nat) (h : t < 3600000) : (spanGo (unitsL.drop 2) t).length ≤ 11 := by
  rw [spanGo_2]
  split
  · rename_i h0
    have := len3 t (by omega)
    omega
  · have h1 := dec_len' 1 (t / 60000) (by omega)
    have h2 := len3 (t % 60000) (by omega)
    rw [List.length_append, List.length_append, List.length_singleton]
    omega
theorem len1 (t : Nat) (h : t < 86400000) : (spanGo (unitsL.drop 1) t).length ≤ 14 := by
  rw [spanGo_1]
  split
  · rename_i h0
    have := len2 t (by omega)
    omega
  · have h1 := dec_len' 1 (t / 3600000) (by omega)
    have h2 := len2 (t % 3600000) (by omega)
    rw [List.length_append, List.length_append, List.length_singleton]
    omega
theorem spanL_len (t : Nat) (h : t ≤ 17592186044416) : (spanL t).length ≤ 21 := by
  unfold spanL
  split
  · simp
  · rw [show spanGo unitsL t = spanGo (unitsL.drop 0) t from rfl, spanGo_0]
    split
    · rename_i h0
      have := len1 t (by omega)
      omega
    · have h1 := dec_len' 5 (t / 86400000) (by omega)
      have h2 := len1 (t % 86400000) (by omega)
      rw [List.length_append, List.length_append, List.length_singleton]
      omega
/-- The program's ParseSpan reads a duration's text back. -/
theorem calSp_span {t : Nat} (h : t ≤ 17592186044416) : calSp (spanL t) = ((t : Int), 0) := calSp_yes (by have := spanL_len t h; omega) h rfl

end Go.Proofs.YthkkjfofpoifiaaDoor
