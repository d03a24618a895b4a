/- Calendar, plain: the text of a time is read back. -/
import Derived.Test.YthkkjfofpoifiaaDoorCalI
namespace Go.Proofs.YthkkjfofpoifiaaDoor

/-- Numbers behind marks, written. -/
def buildN : List (List UInt8 × Nat) → List Nat → List UInt8 → List UInt8
  | (mk, k) :: r, n :: ns, l => mk ++ (dgs n k ++ buildN r ns l)
  | _, _, l => l
theorem take_dgs (n k : Nat) (l : List UInt8) : (dgs n k ++ l).take k = dgs n k := by
  rw [List.take_append_of_le_length (by rw [dgs_len]; exact Nat.le_refl _), List.take_of_length_le (by rw [dgs_len]; exact Nat.le_refl _)]
theorem drop_dgs (n k : Nat) (l : List UInt8) : (dgs n k ++ l).drop k = l := by
  rw [List.drop_append_of_le_length (by rw [dgs_len]; exact Nat.le_refl _), List.drop_of_length_le (by rw [dgs_len]; exact Nat.le_refl _)]; rfl
theorem numOK_dgs (n k : Nat) (l : List UInt8) : numOK (dgs n k ++ l) k = true := by
  rw [numOK_iff, take_dgs]
  exact ⟨by rw [List.length_append, dgs_len]; omega, dgs_dg k n⟩
theorem drop_mark (mk l : List UInt8) : (mk ++ l).drop mk.length = l := by simp
theorem pre_mark (mk l : List UInt8) : mk.isPrefixOf (mk ++ l) = true := by simp
theorem parse_build : ∀ (ms : List (List UInt8 × Nat)) (ns : List Nat) (l : List UInt8), ms.length = ns.length → (∀ p ∈ ms.zip ns, p.2 < 10 ^ p.1.2) → parseN ms (buildN ms ns l) = some (ns, l)
  | [], [], l, _, _ => rfl
  | [], _ :: _, _, h, _ => by simp at h
  | _ :: _, [], _, h, _ => by simp at h
  | (mk, k) :: r, n :: ns, l, h, hb => by
    have hn : n < 10 ^ k := hb ((mk, k), n) (by simp)
    rw [show buildN ((mk, k) :: r) (n :: ns) l = mk ++ (dgs n k ++ buildN r ns l) from rfl, parseN, if_pos ⟨pre_mark _ _, by rw [drop_mark]; exact numOK_dgs n k _⟩, drop_mark, take_dgs, drop_dgs,
      parse_build r ns l (by simpa using h) (fun p hp => hb p (by rw [List.zip_cons_cons]; exact List.mem_cons_of_mem _ hp)), numL_dgs k n hn]
    rfl
/-- The rest of a time's text. -/
def fracL (ms : Nat) : List UInt8 := if ms = 0 then [90] else 46 :: (dgs ms 3 ++ [90])
/-- The text of a time. -/
def timeL (y m d r : Nat) : List UInt8 := buildN marks6 [y, m, d, r / 3600000, r / 60000 % 60, r / 1000 % 60] (fracL (r % 1000))
theorem timeL_eq (y m d r : Nat) : timeL y m d r = dateL y m d ++ 84 :: (dgs (r / 3600000) 2 ++ 58 :: (dgs (r / 60000 % 60) 2 ++ 58 :: (dgs (r / 1000 % 60) 2 ++ fracL (r % 1000)))) := by
  simp [timeL, buildN, marks6, dateL]
theorem timeL_len (y m d r : Nat) : (timeL y m d r).length ≤ 24 := by
  rw [timeL_eq]
  unfold fracL
  split <;> simp [dateL_len, dgs_len]
theorem calT_time {y m d r : Nat} (h : Date y m d) (hy : y < 10000) (hm : m < 100) (hd : d < 100) (hr : r < 86400000) : calT (timeL y m d r) = (dnum y m d * 86400000 + (r : Int), 0) := by
  have hp : parseN marks6 (timeL y m d r) = some ([y, m, d, r / 3600000, r / 60000 % 60, r / 1000 % 60], fracL (r % 1000)) := by
    refine parse_build marks6 _ _ rfl ?_
    intro p hp
    simp [marks6] at hp
    rcases hp with rfl | rfl | rfl | rfl | rfl | rfl <;> simp <;> omega
  generalize timeL y m d r = T at hp ⊢
  obtain ⟨hok, hns, hrest⟩ := calT_ok hp
  by_cases h0 : r % 1000 = 0
  · have hz : (T).drop 19 = [90] := by rw [← hrest]; unfold fracL; rw [if_pos h0]
    obtain ⟨y', m', d', hh, mi, sc, hE, hY, -⟩ := fin_facts _ _ (calT_whole hok hz)
    rw [← hns] at hE
    injection hE with e0 hE; injection hE with e1 hE; injection hE with e2 hE; injection hE with e3 hE; injection hE with e4 hE; injection hE with e5 hE
    subst e0 e1 e2
    rw [hY h (by omega) (by omega) (by omega)]
    exact Prod.ext (by dsimp only; omega) rfl
  · have hf : (T).drop 19 = 46 :: (dgs (r % 1000) 3 ++ [90]) := by rw [← hrest]; unfold fracL; rw [if_neg h0]
    have hd20 : (T).drop 20 = dgs (r % 1000) 3 ++ [90] := by
      have : (T).drop 20 = ((T).drop 19).drop 1 := by rw [List.drop_drop]
      rw [this, hf]; rfl
    have hd23 : (T).drop 23 = [90] := by
      have : (T).drop 23 = ((T).drop 20).drop 3 := by rw [List.drop_drop]
      rw [this, hd20, drop_dgs]
    have hnum : numL (((T).drop 20).take 3) = r % 1000 := by rw [hd20, take_dgs, numL_dgs 3 _ (by omega)]
    have p1 : ([46] : List UInt8).isPrefixOf ((T).drop 19) = true := by rw [hf]; exact pre_mark [46] (dgs (r % 1000) 3 ++ [90])
    have p2 : numOK ((T).drop 20) 3 = true := by rw [hd20]; exact numOK_dgs (r % 1000) 3 [90]
    have p3 : ¬ numL (((T).drop 20).take 3) = 0 := by rw [hnum]; exact h0
    obtain ⟨y', m', d', hh, mi, sc, hE, hY, -⟩ := fin_facts _ _ (calT_frac hok p1 p2 p3 hd23)
    rw [← hns] at hE
    injection hE with e0 hE; injection hE with e1 hE; injection hE with e2 hE; injection hE with e3 hE; injection hE with e4 hE; injection hE with e5 hE
    subst e0 e1 e2
    rw [hY h (by omega) (by omega) (by omega), hnum]
    exact Prod.ext (by dsimp only; omega) rfl

end Go.Proofs.YthkkjfofpoifiaaDoor
