/- Path: strings.IndexAny of the three stops, at any bytes. -/
import Derived.Test.YtdccckoelnnnoaaDoorPaK
namespace Go.Proofs.YtdccckoelnnnoaaDoor
open Go.RowKit
attribute [local go_sem ↓] Go.wp_at_zero Go.wp_at_succ

/-! strings.IndexAny of the stops. -/
theorem rune_any (r : Int) (h1 : 128 ≤ r) (h2 : r ≤ 2147483647) (w : World) : Calls Tryd.prog 67 #[.string stops, .int .i32 r] w fun e w' => e = .returned (.int .i64 (-1)) ∧ Only Nobody w w' := by
  by_cases h : r = 65533
  · subst h; exact rune_bad w
  · exact rune_high r h1 h2 h w
theorem stops_list : stops.data.toList = [46, 91, 63] := rfl
theorem stop_ascii (x : UInt8) (h : x.toNat < 128) (w : World) : Calls Tryd.prog 67 #[.string stops, .int .i32 (x.toNat : Int)] w fun e w' => e = .returned (.int .i64 (Lib.indexByte stops.data.toList x)) ∧ Only Nobody w w' := by
  refine (Tryd.strings_IndexRune_ascii stops (x.toNat : Int) w (by omega) (by omega)).mono ?_
  rintro e w' ⟨rfl, rfl⟩
  exact ⟨by simp, Only.refl _ _⟩
theorem noAny_high {s : ByteArray} {p k : Nat} (h : Lib.NoAny s.data.toList [46, 91, 63] p) (hk : p + k ≤ s.size) (hh : ∀ j, j < k → 128 ≤ (s.get! (p + j)).toNat) : Lib.NoAny s.data.toList [46, 91, 63] (p + k) := by
  intro j b hj hb
  by_cases hp : j < p
  · exact h j b hp hb
  · have h2 := hh (j - p) (by omega)
    rw [show p + (j - p) = j by omega] at h2
    have hjs : j < s.size := by omega
    have : s.get! j = b := by
      have e1 : s.data.toList[j]? = some s[j] := Lib.data_getElem? s j hjs
      rw [e1] at hb
      have e2 : s.get! j = s[j] := by
        have := get_at s j hjs
        simpa using this
      rw [e2]
      exact Option.some.inj hb
    rw [this] at h2
    cases hc : [46, 91, 63].contains b with
    | false => rfl
    | true =>
      simp only [List.contains_cons, List.contains_nil, Bool.or_false, Bool.or_eq_true, beq_iff_eq] at hc
      rcases hc with rfl | rfl | rfl <;> simp at h2
/-- A string's iterator at block g moves. -/
def setIter (w : World) (g : Nat) (s : ByteArray) (p : Nat) : World := { w with heap := w.heap.setIfInBounds g (.stringIter s p) }
theorem setIter_only {w0 w : World} {g : Nat} {s : ByteArray} {p : Nat} (h : Only Nobody w0 w) (hg : w0.heap.size ≤ g) : Only Nobody w0 (setIter w g s p) := by
  refine ⟨h.os, h.tape, h.output, ?_, fun k hk _ => ?_⟩
  · have := h.size
    simp only [setIter, Array.size_setIfInBounds]
    exact this
  · simp only [setIter]
    rw [Array.getElem?_setIfInBounds_ne (by omega)]
    exact h.block k hk (fun x => x)
theorem setIter_at {w : World} {g : Nat} {s : ByteArray} {p : Nat} (hg : g < w.heap.size) : (setIter w g s p).heap[g]? = some (.stringIter s p) := by
  simp only [setIter]
  rw [Array.getElem?_setIfInBounds_self]
  simp [hg]
theorem iter_lt {w : World} {g : Nat} {s : ByteArray} {p : Nat} (h : w.heap[g]? = some (.stringIter s p)) : g < w.heap.size := (Array.getElem?_eq_some_iff.1 h).1
theorem next_at (w : World) (g : Nat) (s : ByteArray) (pos : Nat) (ty : TypeId) (hg : w.heap[g]? = some (.stringIter s pos)) (h : pos < s.size) :
    (Instr.next (.pointer (some ⟨g, 0, none⟩)) true ty).run Tryd.prog w = .ok (.tuple #[.bool true, .int .i64 pos, .int .i32 (Utf8.decode s pos).1]) (setIter w g s (pos + (Utf8.decode s pos).2)) := by
  simp only [Instr.next, getObj, setObj, Sem.run_bind, Sem.run, hg, Result.andThen, h, if_true]
  simp [goInt, setIter]
theorem next_end (w : World) (g : Nat) (s : ByteArray) (ty : TypeId) (hg : w.heap[g]? = some (.stringIter s s.size)) :
    (Instr.next (.pointer (some ⟨g, 0, none⟩)) true ty).run Tryd.prog w = .ok (.tuple #[.bool false]) w := by
  simp [Instr.next, getObj, Sem.run, hg]
def stopAt (l : List UInt8) : Int := Lib.indexAny l [46, 91, 63]
set_option maxRecDepth 100000 in
set_option maxHeartbeats 8000000 in
theorem anyShort (s : ByteArray) (h8 : s.size ≤ 8) (w : World) : Calls Tryd.prog 57 #[.string s, .string stops] w fun e w' => e = .returned (.int .i64 (stopAt s.data.toList)) ∧ Only Nobody w w' := by
  obtain ⟨ch, HCH⟩ : ∃ ch, Hid (stops = ch) := ⟨_, Lib.hid rfl⟩
  have hcz : ch.size = 3 := by rw [← HCH.out]; rfl
  have HR : Hid (∀ r w, 128 ≤ r → r ≤ 2147483647 → Calls Tryd.prog 67 #[.string ch, .int .i32 r] w fun e w' => e = .returned (.int .i64 (-1)) ∧ Only Nobody w w') := Lib.hid (by rw [← HCH.out]; exact fun r w a b => rune_any r a b w)
  have HA : Hid (∀ (x : UInt8) w, x.toNat < 128 → Calls Tryd.prog 67 #[.string ch, .int .i32 (x.toNat : Int)] w fun e w' => e = .returned (.int .i64 (Lib.indexByte ch.data.toList x)) ∧ Only Nobody w w') := Lib.hid (by rw [← HCH.out]; exact fun x w a => stop_ascii x a w)
  have HL : Hid (ch.data.toList = [46, 91, 63]) := Lib.hid (by rw [← HCH.out]; rfl)
  have hemp : ch.toList.isEmpty = false := by rw [toList_data, HL.out]; rfl
  have hemq : ¬ ch.toList = [] := by rw [toList_data, HL.out]; simp
  rw [HCH.out]
  have h8z : decide ((8 : Int) < (s.size : Int)) = false := decide_eq_false (by omega)
  go_enter Tryd.func57, Tryd.ntmps57
  go_wp2_with fail
  refine (Tryd.strings_shouldUseASCIISet _ _).mono ?_
  rw [h8z]
  rintro e w1 ⟨rfl, rfl⟩
  go_wp2_with fail
  go_loopg [9, 10] s.size (fun g _ _ wx => ∃ i : Nat, i + g = s.size ∧ Hid (wx.heap[w1.heap.size]? = some (.stringIter s i)) ∧ Hid (Only Nobody w1 wx) ∧ Hid (Lib.NoAny s.data.toList [46, 91, 63] i))
  case atStart => exact ⟨0, by omega, Lib.hid (World.iter_heap _ _ _), Lib.hid (iter_only _ _ _), Lib.hid (Lib.NoAny.zero _ _)⟩
  case round =>
    obtain ⟨i, hig, HG, HON, HN⟩ := hrel
    cases gk with
    | zero =>
      obtain rfl : i = s.size := by omega
      have hnx := fun ty => next_end wr w1.heap.size s ty HG.out
      go_wp2_with fail
      go_ret
      exact ⟨ret_int (by unfold stopAt; rw [Lib.indexAny_none (by rw [← Lib.size_eq]; exact HN.out)]), HON.out⟩
    | succ g =>
      have hi : i < s.size := by omega
      have hnx := fun ty => next_at wr w1.heap.size s i ty HG.out hi
      have hlt := iter_lt HG.out
      have HGE : Hid (w1.heap.size ≤ w1.heap.size) := Lib.hid (Nat.le_refl _)
      have HXO : Hid (∀ p, Only Nobody w1 (setIter wr w1.heap.size s p)) := Lib.hid fun p => setIter_only HON.out HGE.out
      have HXA : Hid (∀ p, (setIter wr w1.heap.size s p).heap[w1.heap.size]? = some (.stringIter s p)) := Lib.hid fun p => setIter_at hlt
      by_cases h128 : s[i].toNat < 128
      · obtain ⟨x, hx⟩ : ∃ x : UInt8, s[i]'hi = x := ⟨_, rfl⟩
        have hxl : s.data.toList[i]? = some x := by rw [← hx]; exact Lib.data_getElem? s i hi
        rw [hx] at h128
        have hd : Utf8.decode s i = (x.toNat, 1) := by rw [decode_ascii s i hi (by rw [hx]; exact h128), hx]
        rw [hd] at hnx
        dsimp only at hnx
        have hcon := Lib.contains_iff_indexByte ch.data.toList x
        rw [HL.out] at hcon
        have HAX := Lib.hid (HA.out x (setIter wr w1.heap.size s (i + 1)) h128)
        rw [HL.out] at HAX
        have HXL := Lib.hid hxl
        clear hx hd hxl
        cases hin : [46, 91, 63].contains x with
        | false =>
          rw [hin] at hcon
          have hlt : ¬ ((0 : Int) ≤ Lib.indexByte [46, 91, 63] x) := of_decide_eq_false hcon.symm
          obtain ⟨q, HQ⟩ : ∃ q, Hid (Lib.indexByte [46, 91, 63] x = q) := ⟨_, Lib.hid rfl⟩
          rw [HQ.out] at hlt HAX
          have HIN := Lib.hid hin
          clear hcon hin
          go_wp2_with fail
          refine HAX.out.mono ?_
          rintro e w2 ⟨rfl, ho⟩
          have HO := Lib.hid ((HXO.out (i + 1)).trans ho)
          have HG2 : Hid (w2.heap[w1.heap.size]? = some (.stringIter s (i + 1))) := Lib.hid ((ho.block w1.heap.size (iter_lt (HXA.out (i + 1))) (fun x => x)).trans (HXA.out (i + 1)))
          clear ho
          go_wp2_with fail
          go_roundg g
          case measure => omega
          case rel => exact ⟨i + 1, by omega, HG2, HO, Lib.hid (HN.out.succ HXL.out HIN.out)⟩
        | true =>
          rw [hin] at hcon
          have hge : ((0 : Int) ≤ Lib.indexByte [46, 91, 63] x) := of_decide_eq_true hcon.symm
          obtain ⟨q, HQ⟩ : ∃ q, Hid (Lib.indexByte [46, 91, 63] x = q) := ⟨_, Lib.hid rfl⟩
          rw [HQ.out] at hge HAX
          have HIN := Lib.hid hin
          clear hcon hin
          go_wp2_with fail
          refine HAX.out.mono ?_
          rintro e w2 ⟨rfl, ho⟩
          have HO := Lib.hid ((HXO.out (i + 1)).trans ho)
          clear ho
          go_wp2_with fail
          go_ret
          exact ⟨ret_int (by unfold stopAt; rw [Lib.indexAny_hit HN.out HXL.out HIN.out]), HO.out⟩
      · have hhi : 128 ≤ (s[i]'hi).toNat := by omega
        obtain ⟨d1, d2⟩ := decode_high s i hi hhi
        have d3 := decode_le s i
        obtain ⟨d4, d5⟩ := decode_wide s i hi hhi
        obtain ⟨r, hr⟩ : ∃ r, (Utf8.decode s i).1 = r := ⟨_, rfl⟩
        obtain ⟨k, hk⟩ : ∃ k, (Utf8.decode s i).2 = k := ⟨_, rfl⟩
        rw [hr, hk] at hnx
        rw [hr] at d1 d3
        rw [hk] at d2 d4 d5
        have HNA : Hid (Lib.NoAny s.data.toList [46, 91, 63] (i + k)) := Lib.hid (noAny_high HN.out d4 d5)
        have HRX := Lib.hid (HR.out (r : Int) (setIter wr w1.heap.size s (i + k)) (by omega) (by omega))
        clear hr hk d5 hhi h128
        go_wp2_with fail
        refine HRX.out.mono ?_
        rintro e w2 ⟨rfl, ho⟩
        have HO := Lib.hid ((HXO.out (i + k)).trans ho)
        have HG2 : Hid (w2.heap[w1.heap.size]? = some (.stringIter s (i + k))) := Lib.hid ((ho.block w1.heap.size (iter_lt (HXA.out (i + k))) (fun x => x)).trans (HXA.out (i + k)))
        clear ho
        go_wp2_with fail
        go_roundg (s.size - (i + k))
        case measure => omega
        case rel => exact ⟨i + k, by omega, HG2, HO, HNA⟩
/-- strings.IndexAny(s, ".[?") at any bytes. -/
theorem stop_any (s : ByteArray) (hs : s.size ≤ 1000000) (w : World) : Calls Tryd.prog 57 #[.string s, .string ⟨#[46, 91, 63]⟩] w fun e w' => e = .returned (.int .i64 (stopAt s.data.toList)) ∧ Only Nobody w w' := by
  by_cases h8 : s.size ≤ 8
  · exact anyShort s h8 w
  · have hz : (Tryd.prog.info? 104).map (fun i => (i.zero, i.size)) = some (some (.agg (Array.replicate 256 (.bool false))), 256) := by kernel_rfl
    refine (Tryd.strings_IndexAny_long (zero_of_info hz).1 s ⟨#[46, 91, 63]⟩ w (by decide) (by omega) (by omega) (by decide) (fun j b hb => ?_)).mono ?_
    · have hm := List.mem_of_getElem? hb
      simp only [List.mem_cons, List.not_mem_nil, or_false] at hm
      rcases hm with rfl | rfl | rfl <;> decide
    · rintro e w' ⟨rfl, rfl⟩
      exact ⟨rfl, ((Only.refl _ _).alloc _).alloc _⟩
theorem stopAt_eq (l : List UInt8) : stopAt l = if (upTo l).length = l.length then -1 else ((upTo l).length : Int) := by
  unfold stopAt
  induction l with
  | nil => rfl
  | cons c l ih =>
    have hle : (upTo l).length ≤ l.length := (List.takeWhile_prefix _).length_le
    rw [Lib.indexAny]
    cases hc : [46, 91, 63].contains c with
    | true =>
      have e : upTo (c :: l) = [] := by unfold upTo; rw [List.takeWhile_cons]; unfold isStop; rw [hc]; rfl
      rw [e, if_pos rfl, if_neg (by simp)]
      rfl
    | false =>
      have e : upTo (c :: l) = c :: upTo l := by unfold upTo; rw [List.takeWhile_cons]; unfold isStop; rw [hc]; rfl
      rw [ih, e, if_neg (by decide), List.length_cons, List.length_cons]
      generalize (upTo l).length = N at hle ⊢
      by_cases h : N = l.length
      · have h2 : N + 1 = l.length + 1 := by omega
        rw [if_pos h, if_pos h2]
        rfl
      · have h2 : ¬ N + 1 = l.length + 1 := by omega
        have hn : ¬ ((N : Int) == -1) = true := by simp
        rw [if_neg h, if_neg h2, if_neg hn]
        omega
end Go.Proofs.YtdccckoelnnnoaaDoor
