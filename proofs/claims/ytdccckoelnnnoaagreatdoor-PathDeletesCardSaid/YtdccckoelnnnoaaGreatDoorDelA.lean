/- slices.Delete of one element, over fields and values. -/
import Derived.Test.YtdccckoelnnnoaaGreatDoorInA
import Derived.Deep.RegionLaw
namespace Go.Proofs.YtdccckoelnnnoaaGreatDoor
open Go.RowKit
attribute [local go_sem ↓] Go.wp_at_zero Go.wp_at_succ

theorem blk_setCells {g : Nat} {t : TypeId} : ∀ (vs : List Value) (o : Nat) (w : World) (cur : Array Value), Blk w g t cur → o + vs.length ≤ cur.size → Blk (w.setCells g o vs) g t (splice cur.toList o vs).toArray
  | [], o, w, cur, h, _ => by
    have e : splice cur.toList o ([] : List Value) = cur.toList := by simp [splice]
    rw [e]
    simpa [World.setCells] using h
  | v :: r, o, w, cur, h, hl => by
    have hl' : o + (r.length + 1) ≤ cur.size := by simpa using hl
    have ih := blk_setCells r (o + 1) (w.setCell ⟨g, o, none⟩ v) (cur.setIfInBounds o v) (h.set_ o v) (by rw [Array.size_setIfInBounds]; omega)
    have e : splice (cur.setIfInBounds o v).toList (o + 1) r = splice cur.toList o (v :: r) := by
      have := list_seg_step cur.toList o v r (by rw [Array.length_toList]; exact hl')
      unfold splice
      rw [Array.toList_setIfInBounds]
      simpa [List.append_assoc, Nat.add_assoc] using this
    rw [e] at ih
    exact ih
theorem only_setCells {g : Nat} : ∀ (vs : List Value) (o : Nat) (w : World), Only (fun b => b = g) w (w.setCells g o vs)
  | [], _, _ => Only.refl _ _
  | v :: r, o, w => ((Only.refl (fun b => b = g) w).setCell (p := ⟨g, o, none⟩) (.inl rfl) v).trans (only_setCells r (o + 1) _)
theorem run_clear_k {P : Program} (w : World) (t e ty : TypeId) (z : Value) (ht : P.underlying t = some (.slice e)) (hv : ∀ w, (zeroValue e).run P w = .ok z w) (g o n c : Nat) (hn : 0 < n) (cur : Array Value) (et : TypeId) (hg : w.heap[g]? = some (.cells cur et (0, 0)))
    (hfit : o + (Builtin.zeroCells z.cells n).size ≤ cur.size) (h1 : ∀ u ∈ (Builtin.zeroCells z.cells n).toList, u.oneCell' = true) :
    (Builtin.clear_ #[t] ty #[.slice (some ⟨g, o, none⟩) n c]).run P w = .ok (.tuple #[]) (w.setRow g (cur.toList.take o ++ (Builtin.zeroCells z.cells n).toList ++ cur.toList.drop (o + (Builtin.zeroCells z.cells n).size)).toArray) := by
  have hst := run_storeCells_at P g o et (Builtin.zeroCells z.cells n).toList 0 cur w hg (by simpa using hfit) h1
  simp only [Nat.add_zero, Array.length_toList] at hst
  obtain ⟨m, rfl⟩ : ∃ m, n = m + 1 := ⟨n - 1, by omega⟩
  simp [Builtin.clear_, run_underlying ht, hv, hst]
theorem cur_ofD {cur : Array Value} {xs : List Value} {j k : Nat} {u : Value} (h : cur.toList.take k = xs) (hu : xs[j]? = some u) : cur[j]? = some u := by
  rw [← h] at hu
  rw [← Array.getElem?_toList]
  have hj : j < k := by
    have := (List.getElem?_eq_some_iff.1 hu).1
    rw [List.length_take] at this
    omega
  rw [List.getElem?_take_of_lt hj] at hu
  exact hu
theorem own_blkD {α : Type} {g : α → List Value} {k : Nat} {w : World} {base n c : Nat} {e : TypeId} {A : Option Addr} {L : List α} (h : w.ownsRow base e k (.slice A n c) n (cells g L)) (hn : 0 < n) : ∃ b cur, A = some ⟨b, 0, none⟩ ∧ base ≤ b ∧ Blk w b e cur ∧ (∀ (j : Nat) (u : Value), (cells g L)[j]? = some u → cur[j]? = some u) ∧ cur.size = c * k ∧ n ≤ c := by
  rcases h.2 with ⟨_, h0⟩ | ⟨b, cap, cur, hv, hb, hg, hc, hm, hs, ht⟩
  · omega
  · injection hv with h1 h2 h3
    subst h1 h3
    exact ⟨b, cur, rfl, hb, hg, fun j u hu => cur_ofD ht hu, hs, hc⟩

def Delf (A : Option Addr) (n c base : Nat) (L : List FC) (w : World) (e : Ending) (w' : World) : Prop := ∃ A' c', e = .returned (.slice A' (n - 1) c') ∧ w'.ownsRow base 59 7 (.slice A' (n - 1) c') (n - 1) (cells FC.vals L) ∧ Only (fun b => Value.ownBlock (.slice A n c) = some b) w w'
set_option maxRecDepth 100000 in
set_option maxHeartbeats 4000000 in
theorem delf_any (A : Option Addr) (n c base i : Nat) (L : List FC) (w : World) (h : w.ownsRow base 59 7 (.slice A n c) n (cells FC.vals L)) (hL : L.length = n) (hn : n ≤ 1353245080300) (hi : i < n) :
    Calls Tryz.prog 28 #[.slice A n c, .int .i64 (i : Int), .int .i64 ((i : Int) + 1)] w (Delf A n c base (L.take i ++ L.drop (i + 1)) w) := by
  obtain ⟨q, rfl⟩ : ∃ q, n = q + 1 := ⟨n - 1, by omega⟩
  obtain ⟨g, cur, rfl, hb, hgk, hcur, hcs, hnc⟩ := own_blkD h (by omega)
  obtain ⟨i0, hi0, hz0, hz1, hz2⟩ := info_parts infoF
  have hcm : c ≤ maxLen := by
    rcases h.2 with ⟨e, _⟩ | ⟨_, cap, _, hv, _, _, _, hm, _⟩
    · cases e
    · injection hv with _ _ h3
      rw [h3]; exact hm
  have htk : cur.toList.take ((q + 1) * 7) = cells FC.vals L := by
    rcases h.2 with ⟨e, _⟩ | ⟨g', cap, cur', hv, _, hg', _, _, _, ht⟩
    · cases e
    · injection hv with h1 _ _
      injection h1 with h1
      injection h1 with h1
      subst h1
      have e : cur = cur' := by
        have := hgk.symm.trans hg'
        injection this with this
        injection this
      rw [e]; exact ht
  have hzv : ∀ w, (zeroValue 59).run Tryz.prog w = .ok (.agg #[.string ByteArray.empty, .int .i64 0, .int .i64 0, .int .i64 0, .string ByteArray.empty, .slice none 0 0, .slice none 0 0]) w := fun w => by simp [zeroValue, typeInfo, hi0, hz0]
  obtain ⟨D, HD⟩ : ∃ D, Hid (D = cells FC.vals (L.drop (i + 1))) := ⟨_, Lib.hid rfl⟩
  have hdl : D.length = (q + 1 - (i + 1)) * 7 := by rw [HD.out, cells_length flen, List.length_drop, hL]
  have HD1 : Hid (∀ u ∈ D, u.oneCell' = true) := Lib.hid (by rw [HD.out]; exact one_fs _)
  have hcurD : ∀ (j : Nat) (u : Value), D[j]? = some u → cur[(i + 1) * 7 + j]? = some u := fun j u hu => by
    rw [HD.out] at hu
    refine hcur _ u ?_
    have e2 : cells FC.vals L = cells FC.vals (L.take (i + 1)) ++ cells FC.vals (L.drop (i + 1)) := by rw [← cells_append, List.take_append_drop]
    have hl : (cells FC.vals (L.take (i + 1))).length = (i + 1) * 7 := by rw [cells_length flen, List.length_take]; congr 1; omega
    rw [e2, List.getElem?_append_right (by omega), hl]
    rw [← hu]
    congr 1
    omega
  have HGK := Lib.hid hgk
  have HSP : Hid (∀ j, j < D.length → (w.drew.cell? ⟨g, 0 + i * 7 + j, none⟩).isSome = true ∧ w.drew.frozen? ⟨g, 0 + i * 7 + j, none⟩ = false) := Lib.hid fun j hj => by
    refine ⟨?_, HGK.out.drew.frozen _⟩
    rw [HGK.out.drew.cell _, Array.getElem?_eq_getElem (by omega)]
    rfl
  have HDL := Lib.hid hdl
  have mixed : Tryz.prog.follows Departure.mixedOrders = true := by kernel_rfl
  have hne : ¬ ((i : Int) = (i : Int) + 1) := by omega
  have hneB : ((i : Int) == (i : Int) + 1) = false := beq_false_of_ne hne
  have hicN : i ≤ c := by omega
  have hi1N : i + 1 ≤ q + 1 := by omega
  have hi0I : (0 : Int) ≤ (i : Int) := by omega
  have hi1I : (i : Int) ≤ (i : Int) + 1 := by omega
  have hi1n : (i : Int) + 1 ≤ ((q : Int) + 1) := by omega
  have hi10 : (0 : Int) ≤ (i : Int) + 1 := by omega
  have hncI : ((q : Int) + 1) ≤ (c : Int) := by omega
  have hinI : (i : Int) ≤ ((q : Int) + 1) := by omega
  have htn : ((i : Int) + 1).toNat = i + 1 := by omega
  have hci : ¬ (c = i) := by omega
  have hni : ¬ (q + 1 = i) := by omega
  have HB := Lib.hid hb
  have HCM := Lib.hid hcm
  have HTK := Lib.hid htk
  clear h hgk hb hcur htk hcm
  by_cases hic : i + 1 = c
  · obtain rfl : i = q := by omega
    subst hic
    have hDn : D = [] := List.eq_nil_of_length_eq_zero (by rw [HDL.out]; simp)
    have hdl0 : D.length = 0 * 7 := by rw [hDn]; simp
    have HSRC : Hid (∀ (j : Nat) (u : Value), D[j]? = some u → w.drew.cell? (Addr.add ⟨g, 0, none⟩ j) = some u) := Lib.hid fun j u hu => by
      rw [hDn] at hu
      simp at hu
    clear hDn
    go_enter Tryz.func28, Tryz.ntmps28
    go_upto_region 5 with fail
    go_region_law_o (refine step_append_room rfl (.tmp 22) (.tmp 25) 23 rfl 59 i0 7 Tryz.underlying23 hi0 hz1 g 0 i (i + 1) (by simp [Act.eval, Act.put]) ⟨g, 0, none⟩ 0 0 D (by simp [Act.eval, Act.put]) hdl0 HSRC.out HD1.out (by omega) HSP.out ?_)
    obtain ⟨w3, HW3⟩ : ∃ w3, Hid (w3 = w.drew.setCells g (i * 7) D) := ⟨_, Lib.hid rfl⟩
    rw [← HW3.out]
    have hb3 : Blk w3 g 59 (splice cur.toList (i * 7) D).toArray := by rw [HW3.out]; exact blk_setCells D (i * 7) w.drew cur HGK.out.drew (by rw [HDL.out]; omega)
    have HO3 : Hid (Only (fun b => b = g) w w3) := Lib.hid (by rw [HW3.out]; exact Only.trans (Only.refl _ _).drew (only_setCells _ _ _))
    have hsz3 : (splice cur.toList (i * 7) D).toArray.size = (i + 1) * 7 := by rw [List.size_toArray, length_splice _ _ _ (by rw [HDL.out, Array.length_toList]; omega), Array.length_toList, hcs]
    have hzs : (Builtin.zeroCells (Value.cells (.agg #[.string ByteArray.empty, .int .i64 0, .int .i64 0, .int .i64 0, .string ByteArray.empty, .slice none 0 0, .slice none 0 0])) 1).size = 7 := by simp [Builtin.zeroCells, Value.cells]
    obtain ⟨w4, HB4, HO4, hclr⟩ : ∃ w4, Hid (Blk w4 g 59 (((splice cur.toList (i * 7) D).toArray.toList.take (i * 7) ++ (Builtin.zeroCells (Value.cells (.agg #[.string ByteArray.empty, .int .i64 0, .int .i64 0, .int .i64 0, .string ByteArray.empty, .slice none 0 0, .slice none 0 0])) 1).toList ++ (splice cur.toList (i * 7) D).toArray.toList.drop (i * 7 + (Builtin.zeroCells (Value.cells (.agg #[.string ByteArray.empty, .int .i64 0, .int .i64 0, .int .i64 0, .string ByteArray.empty, .slice none 0 0, .slice none 0 0])) 1).size)).toArray)) ∧ Hid (Only (fun b => b = g) w3 w4) ∧ ∀ ty cc, (Builtin.clear_ #[23] ty #[.slice (some ⟨g, i * 7, none⟩) 1 cc]).run Tryz.prog w3 = .ok (.tuple #[]) w4 :=
      ⟨_, setRow_heap w3 g _ _ _ _ hb3, only_setRow _ _ _, fun ty cc => run_clear_k w3 _ _ ty _ Tryz.underlying23 hzv g (i * 7) 1 cc (by omega) _ _ hb3 (by rw [hzs, hsz3]; omega) (by
        intro u hu
        have : u ∈ Value.cells (.agg #[.string ByteArray.empty, .int .i64 0, .int .i64 0, .int .i64 0, .string ByteArray.empty, .slice none 0 0, .slice none 0 0]) := by
          simp [Builtin.zeroCells, Value.cells] at hu
          simp [Value.cells]
          obtain ⟨a, ha, rfl⟩ := hu
          obtain h | h | h | h | h | h | h : a = 0 ∨ a = 1 ∨ a = 2 ∨ a = 3 ∨ a = 4 ∨ a = 5 ∨ a = 6 := by omega
          all_goals (subst h; simp)
        simp [Value.cells] at this
        rcases this with rfl | rfl | rfl | rfl | rfl | rfl | rfl <;> rfl)⟩
    go_wp2_with fail
    go_ret
    have hS : (splice cur.toList (i * 7) D).take (i * 7) = cells FC.vals (L.take i ++ L.drop (i + 1)) := by
      have h1 : cur.toList.take (i * 7) = cells FC.vals (L.take i) := by
        have e2 : cells FC.vals L = cells FC.vals (L.take i) ++ cells FC.vals (L.drop i) := by rw [← cells_append, List.take_append_drop]
        have hl : (cells FC.vals (L.take i)).length = i * 7 := by rw [cells_length flen, List.length_take]; congr 1; omega
        have h2 : (cells FC.vals L).take (i * 7) = cells FC.vals (L.take i) := by rw [e2, List.take_append_of_le_length (by omega), List.take_of_length_le (by omega)]
        rw [← h2, ← HTK.out, List.take_take, Nat.min_eq_left (by omega)]
      unfold splice
      rw [h1, ← List.append_assoc, List.take_append_of_le_length (by rw [List.length_append, cells_length flen, List.length_take, HDL.out]; omega), List.take_of_length_le (by rw [List.length_append, cells_length flen, List.length_take, HDL.out]; omega), cells_append, HD.out]
    have hlen : (splice cur.toList (i * 7) D).length = (i + 1) * 7 := by rw [← hsz3, List.size_toArray]
    refine ⟨some ⟨g, 0, none⟩, (i + 1), rfl, ⟨?_, .inr ⟨g, (i + 1), _, rfl, HB.out, HB4.out, by omega, HCM.out, ?_, ?_⟩⟩, (HO3.out.trans HO4.out).mono (fun b e => by rw [e]; rfl)⟩
    · rw [cells_length flen, List.length_append, List.length_take, List.length_drop, hL]
      congr 1
      omega
    · simp only [List.size_toArray, List.length_append, List.length_take, List.length_drop, hlen, Array.length_toList, hzs]
      omega
    · show List.take (i * 7) _ = _
      rw [List.toList_toArray, List.toList_toArray, List.append_assoc, List.take_append_of_le_length (by rw [List.length_take, hlen]; omega), List.take_take, Nat.min_self, hS]
  · have hci1 : ¬ (c = i + 1) := by omega
    have HSRC : Hid (∀ (j : Nat) (u : Value), D[j]? = some u → w.drew.cell? (Addr.add ⟨g, (i + 1) * 7, none⟩ j) = some u) := Lib.hid fun j u hu => by
      rw [Addr.add_lit]
      exact (HGK.out.drew.cell _).trans (hcurD j u hu)
    go_enter Tryz.func28, Tryz.ntmps28
    go_upto_region 5 with fail
    go_region_law_o (refine step_append_room rfl (.tmp 22) (.tmp 25) 23 rfl 59 i0 7 Tryz.underlying23 hi0 hz1 g 0 i c (by simp [Act.eval, Act.put]) ⟨g, (i + 1) * 7, none⟩ (q + 1 - (i + 1)) (c - (i + 1)) D (by simp [Act.eval, Act.put]) hdl HSRC.out HD1.out (by omega) HSP.out ?_)
    rw [show i + (q - i) = q by omega]
    obtain ⟨w3, HW3⟩ : ∃ w3, Hid (w3 = w.drew.setCells g (i * 7) D) := ⟨_, Lib.hid rfl⟩
    rw [← HW3.out]
    have hb3 : Blk w3 g 59 (splice cur.toList (i * 7) D).toArray := by rw [HW3.out]; exact blk_setCells D (i * 7) w.drew cur HGK.out.drew (by rw [HDL.out]; omega)
    have HO3 : Hid (Only (fun b => b = g) w w3) := Lib.hid (by rw [HW3.out]; exact Only.trans (Only.refl _ _).drew (only_setCells _ _ _))
    have hsz3 : (splice cur.toList (i * 7) D).toArray.size = c * 7 := by rw [List.size_toArray, length_splice _ _ _ (by rw [HDL.out, Array.length_toList]; omega), Array.length_toList, hcs]
    have hzs : (Builtin.zeroCells (Value.cells (.agg #[.string ByteArray.empty, .int .i64 0, .int .i64 0, .int .i64 0, .string ByteArray.empty, .slice none 0 0, .slice none 0 0])) 1).size = 7 := by simp [Builtin.zeroCells, Value.cells]
    obtain ⟨w4, HB4, HO4, hclr⟩ : ∃ w4, Hid (Blk w4 g 59 (((splice cur.toList (i * 7) D).toArray.toList.take (q * 7) ++ (Builtin.zeroCells (Value.cells (.agg #[.string ByteArray.empty, .int .i64 0, .int .i64 0, .int .i64 0, .string ByteArray.empty, .slice none 0 0, .slice none 0 0])) 1).toList ++ (splice cur.toList (i * 7) D).toArray.toList.drop (q * 7 + (Builtin.zeroCells (Value.cells (.agg #[.string ByteArray.empty, .int .i64 0, .int .i64 0, .int .i64 0, .string ByteArray.empty, .slice none 0 0, .slice none 0 0])) 1).size)).toArray)) ∧ Hid (Only (fun b => b = g) w3 w4) ∧ ∀ ty cc, (Builtin.clear_ #[23] ty #[.slice (some ⟨g, q * 7, none⟩) 1 cc]).run Tryz.prog w3 = .ok (.tuple #[]) w4 :=
      ⟨_, setRow_heap w3 g _ _ _ _ hb3, only_setRow _ _ _, fun ty cc => run_clear_k w3 _ _ ty _ Tryz.underlying23 hzv g (q * 7) 1 cc (by omega) _ _ hb3 (by rw [hzs, hsz3]; omega) (by
        intro u hu
        have : u ∈ Value.cells (.agg #[.string ByteArray.empty, .int .i64 0, .int .i64 0, .int .i64 0, .string ByteArray.empty, .slice none 0 0, .slice none 0 0]) := by
          simp [Builtin.zeroCells, Value.cells] at hu
          simp [Value.cells]
          obtain ⟨a, ha, rfl⟩ := hu
          obtain h | h | h | h | h | h | h : a = 0 ∨ a = 1 ∨ a = 2 ∨ a = 3 ∨ a = 4 ∨ a = 5 ∨ a = 6 := by omega
          all_goals (subst h; simp)
        simp [Value.cells] at this
        rcases this with rfl | rfl | rfl | rfl | rfl | rfl | rfl <;> rfl)⟩
    go_wp2_with fail
    go_ret
    have hS : (splice cur.toList (i * 7) D).take (q * 7) = cells FC.vals (L.take i ++ L.drop (i + 1)) := by
      have h1 : cur.toList.take (i * 7) = cells FC.vals (L.take i) := by
        have e2 : cells FC.vals L = cells FC.vals (L.take i) ++ cells FC.vals (L.drop i) := by rw [← cells_append, List.take_append_drop]
        have hl : (cells FC.vals (L.take i)).length = i * 7 := by rw [cells_length flen, List.length_take]; congr 1; omega
        have h2 : (cells FC.vals L).take (i * 7) = cells FC.vals (L.take i) := by rw [e2, List.take_append_of_le_length (by omega), List.take_of_length_le (by omega)]
        rw [← h2, ← HTK.out, List.take_take, Nat.min_eq_left (by omega)]
      unfold splice
      rw [h1, ← List.append_assoc, List.take_append_of_le_length (by rw [List.length_append, cells_length flen, List.length_take, HDL.out]; omega), List.take_of_length_le (by rw [List.length_append, cells_length flen, List.length_take, HDL.out]; omega), cells_append, HD.out]
    have hlen : (splice cur.toList (i * 7) D).length = c * 7 := by rw [← hsz3, List.size_toArray]
    refine ⟨some ⟨g, 0, none⟩, c, rfl, ⟨?_, .inr ⟨g, c, _, rfl, HB.out, HB4.out, by omega, HCM.out, ?_, ?_⟩⟩, (HO3.out.trans HO4.out).mono (fun b e => by rw [e]; rfl)⟩
    · rw [cells_length flen, List.length_append, List.length_take, List.length_drop, hL]
      congr 1
      omega
    · simp only [List.size_toArray, List.length_append, List.length_take, List.length_drop, hlen, Array.length_toList, hzs]
      omega
    · show List.take (q * 7) _ = _
      rw [List.toList_toArray, List.toList_toArray, List.append_assoc, List.take_append_of_le_length (by rw [List.length_take, hlen]; omega), List.take_take, Nat.min_self, hS]
def Delv (A : Option Addr) (n c base : Nat) (L : List VC) (w : World) (e : Ending) (w' : World) : Prop := ∃ A' c', e = .returned (.slice A' (n - 1) c') ∧ w'.ownsRow base 25 6 (.slice A' (n - 1) c') (n - 1) (cells VC.vals L) ∧ Only (fun b => Value.ownBlock (.slice A n c) = some b) w w'
set_option maxRecDepth 100000 in
set_option maxHeartbeats 4000000 in
theorem delv_any (A : Option Addr) (n c base i : Nat) (L : List VC) (w : World) (h : w.ownsRow base 25 6 (.slice A n c) n (cells VC.vals L)) (hL : L.length = n) (hn : n ≤ 1599289640355) (hi : i < n) :
    Calls Tryz.prog 25 #[.slice A n c, .int .i64 (i : Int), .int .i64 ((i : Int) + 1)] w (Delv A n c base (L.take i ++ L.drop (i + 1)) w) := by
  obtain ⟨q, rfl⟩ : ∃ q, n = q + 1 := ⟨n - 1, by omega⟩
  obtain ⟨g, cur, rfl, hb, hgk, hcur, hcs, hnc⟩ := own_blkD h (by omega)
  obtain ⟨i0, hi0, hz0, hz1, hz2⟩ := info_parts infoV
  have hcm : c ≤ maxLen := by
    rcases h.2 with ⟨e, _⟩ | ⟨_, cap, _, hv, _, _, _, hm, _⟩
    · cases e
    · injection hv with _ _ h3
      rw [h3]; exact hm
  have htk : cur.toList.take ((q + 1) * 6) = cells VC.vals L := by
    rcases h.2 with ⟨e, _⟩ | ⟨g', cap, cur', hv, _, hg', _, _, _, ht⟩
    · cases e
    · injection hv with h1 _ _
      injection h1 with h1
      injection h1 with h1
      subst h1
      have e : cur = cur' := by
        have := hgk.symm.trans hg'
        injection this with this
        injection this
      rw [e]; exact ht
  have hzv : ∀ w, (zeroValue 25).run Tryz.prog w = .ok (.agg #[.int .i64 0, .int .i64 0, .int .i64 0, .string ByteArray.empty, .slice none 0 0, .slice none 0 0]) w := fun w => by simp [zeroValue, typeInfo, hi0, hz0]
  obtain ⟨D, HD⟩ : ∃ D, Hid (D = cells VC.vals (L.drop (i + 1))) := ⟨_, Lib.hid rfl⟩
  have hdl : D.length = (q + 1 - (i + 1)) * 6 := by rw [HD.out, cells_length vlen, List.length_drop, hL]
  have HD1 : Hid (∀ u ∈ D, u.oneCell' = true) := Lib.hid (by rw [HD.out]; exact one_vs' _)
  have hcurD : ∀ (j : Nat) (u : Value), D[j]? = some u → cur[(i + 1) * 6 + j]? = some u := fun j u hu => by
    rw [HD.out] at hu
    refine hcur _ u ?_
    have e2 : cells VC.vals L = cells VC.vals (L.take (i + 1)) ++ cells VC.vals (L.drop (i + 1)) := by rw [← cells_append, List.take_append_drop]
    have hl : (cells VC.vals (L.take (i + 1))).length = (i + 1) * 6 := by rw [cells_length vlen, List.length_take]; congr 1; omega
    rw [e2, List.getElem?_append_right (by omega), hl]
    rw [← hu]
    congr 1
    omega
  have HGK := Lib.hid hgk
  have HSP : Hid (∀ j, j < D.length → (w.drew.cell? ⟨g, 0 + i * 6 + j, none⟩).isSome = true ∧ w.drew.frozen? ⟨g, 0 + i * 6 + j, none⟩ = false) := Lib.hid fun j hj => by
    refine ⟨?_, HGK.out.drew.frozen _⟩
    rw [HGK.out.drew.cell _, Array.getElem?_eq_getElem (by omega)]
    rfl
  have HDL := Lib.hid hdl
  have mixed : Tryz.prog.follows Departure.mixedOrders = true := by kernel_rfl
  have hne : ¬ ((i : Int) = (i : Int) + 1) := by omega
  have hneB : ((i : Int) == (i : Int) + 1) = false := beq_false_of_ne hne
  have hicN : i ≤ c := by omega
  have hi1N : i + 1 ≤ q + 1 := by omega
  have hi0I : (0 : Int) ≤ (i : Int) := by omega
  have hi1I : (i : Int) ≤ (i : Int) + 1 := by omega
  have hi1n : (i : Int) + 1 ≤ ((q : Int) + 1) := by omega
  have hi10 : (0 : Int) ≤ (i : Int) + 1 := by omega
  have hncI : ((q : Int) + 1) ≤ (c : Int) := by omega
  have hinI : (i : Int) ≤ ((q : Int) + 1) := by omega
  have htn : ((i : Int) + 1).toNat = i + 1 := by omega
  have hci : ¬ (c = i) := by omega
  have hni : ¬ (q + 1 = i) := by omega
  have HB := Lib.hid hb
  have HCM := Lib.hid hcm
  have HTK := Lib.hid htk
  clear h hgk hb hcur htk hcm
  by_cases hic : i + 1 = c
  · obtain rfl : i = q := by omega
    subst hic
    have hDn : D = [] := List.eq_nil_of_length_eq_zero (by rw [HDL.out]; simp)
    have hdl0 : D.length = 0 * 6 := by rw [hDn]; simp
    have HSRC : Hid (∀ (j : Nat) (u : Value), D[j]? = some u → w.drew.cell? (Addr.add ⟨g, 0, none⟩ j) = some u) := Lib.hid fun j u hu => by
      rw [hDn] at hu
      simp at hu
    clear hDn
    go_enter Tryz.func25, Tryz.ntmps25
    go_upto_region 5 with fail
    go_region_law_o (refine step_append_room rfl (.tmp 22) (.tmp 25) 22 rfl 25 i0 6 Tryz.underlying22 hi0 hz1 g 0 i (i + 1) (by simp [Act.eval, Act.put]) ⟨g, 0, none⟩ 0 0 D (by simp [Act.eval, Act.put]) hdl0 HSRC.out HD1.out (by omega) HSP.out ?_)
    obtain ⟨w3, HW3⟩ : ∃ w3, Hid (w3 = w.drew.setCells g (i * 6) D) := ⟨_, Lib.hid rfl⟩
    rw [← HW3.out]
    have hb3 : Blk w3 g 25 (splice cur.toList (i * 6) D).toArray := by rw [HW3.out]; exact blk_setCells D (i * 6) w.drew cur HGK.out.drew (by rw [HDL.out]; omega)
    have HO3 : Hid (Only (fun b => b = g) w w3) := Lib.hid (by rw [HW3.out]; exact Only.trans (Only.refl _ _).drew (only_setCells _ _ _))
    have hsz3 : (splice cur.toList (i * 6) D).toArray.size = (i + 1) * 6 := by rw [List.size_toArray, length_splice _ _ _ (by rw [HDL.out, Array.length_toList]; omega), Array.length_toList, hcs]
    have hzs : (Builtin.zeroCells (Value.cells (.agg #[.int .i64 0, .int .i64 0, .int .i64 0, .string ByteArray.empty, .slice none 0 0, .slice none 0 0])) 1).size = 6 := by simp [Builtin.zeroCells, Value.cells]
    obtain ⟨w4, HB4, HO4, hclr⟩ : ∃ w4, Hid (Blk w4 g 25 (((splice cur.toList (i * 6) D).toArray.toList.take (i * 6) ++ (Builtin.zeroCells (Value.cells (.agg #[.int .i64 0, .int .i64 0, .int .i64 0, .string ByteArray.empty, .slice none 0 0, .slice none 0 0])) 1).toList ++ (splice cur.toList (i * 6) D).toArray.toList.drop (i * 6 + (Builtin.zeroCells (Value.cells (.agg #[.int .i64 0, .int .i64 0, .int .i64 0, .string ByteArray.empty, .slice none 0 0, .slice none 0 0])) 1).size)).toArray)) ∧ Hid (Only (fun b => b = g) w3 w4) ∧ ∀ ty cc, (Builtin.clear_ #[22] ty #[.slice (some ⟨g, i * 6, none⟩) 1 cc]).run Tryz.prog w3 = .ok (.tuple #[]) w4 :=
      ⟨_, setRow_heap w3 g _ _ _ _ hb3, only_setRow _ _ _, fun ty cc => run_clear_k w3 _ _ ty _ Tryz.underlying22 hzv g (i * 6) 1 cc (by omega) _ _ hb3 (by rw [hzs, hsz3]; omega) (by
        intro u hu
        have : u ∈ Value.cells (.agg #[.int .i64 0, .int .i64 0, .int .i64 0, .string ByteArray.empty, .slice none 0 0, .slice none 0 0]) := by
          simp [Builtin.zeroCells, Value.cells] at hu
          simp [Value.cells]
          obtain ⟨a, ha, rfl⟩ := hu
          obtain h | h | h | h | h | h | h : a = 0 ∨ a = 1 ∨ a = 2 ∨ a = 3 ∨ a = 4 ∨ a = 5 ∨ a = 6 := by omega
          all_goals (subst h; simp)
        simp [Value.cells] at this
        rcases this with rfl | rfl | rfl | rfl | rfl | rfl | rfl <;> rfl)⟩
    go_wp2_with fail
    go_ret
    have hS : (splice cur.toList (i * 6) D).take (i * 6) = cells VC.vals (L.take i ++ L.drop (i + 1)) := by
      have h1 : cur.toList.take (i * 6) = cells VC.vals (L.take i) := by
        have e2 : cells VC.vals L = cells VC.vals (L.take i) ++ cells VC.vals (L.drop i) := by rw [← cells_append, List.take_append_drop]
        have hl : (cells VC.vals (L.take i)).length = i * 6 := by rw [cells_length vlen, List.length_take]; congr 1; omega
        have h2 : (cells VC.vals L).take (i * 6) = cells VC.vals (L.take i) := by rw [e2, List.take_append_of_le_length (by omega), List.take_of_length_le (by omega)]
        rw [← h2, ← HTK.out, List.take_take, Nat.min_eq_left (by omega)]
      unfold splice
      rw [h1, ← List.append_assoc, List.take_append_of_le_length (by rw [List.length_append, cells_length vlen, List.length_take, HDL.out]; omega), List.take_of_length_le (by rw [List.length_append, cells_length vlen, List.length_take, HDL.out]; omega), cells_append, HD.out]
    have hlen : (splice cur.toList (i * 6) D).length = (i + 1) * 6 := by rw [← hsz3, List.size_toArray]
    refine ⟨some ⟨g, 0, none⟩, (i + 1), rfl, ⟨?_, .inr ⟨g, (i + 1), _, rfl, HB.out, HB4.out, by omega, HCM.out, ?_, ?_⟩⟩, (HO3.out.trans HO4.out).mono (fun b e => by rw [e]; rfl)⟩
    · rw [cells_length vlen, List.length_append, List.length_take, List.length_drop, hL]
      congr 1
      omega
    · simp only [List.size_toArray, List.length_append, List.length_take, List.length_drop, hlen, Array.length_toList, hzs]
      omega
    · show List.take (i * 6) _ = _
      rw [List.toList_toArray, List.toList_toArray, List.append_assoc, List.take_append_of_le_length (by rw [List.length_take, hlen]; omega), List.take_take, Nat.min_self, hS]
  · have hci1 : ¬ (c = i + 1) := by omega
    have HSRC : Hid (∀ (j : Nat) (u : Value), D[j]? = some u → w.drew.cell? (Addr.add ⟨g, (i + 1) * 6, none⟩ j) = some u) := Lib.hid fun j u hu => by
      rw [Addr.add_lit]
      exact (HGK.out.drew.cell _).trans (hcurD j u hu)
    go_enter Tryz.func25, Tryz.ntmps25
    go_upto_region 5 with fail
    go_region_law_o (refine step_append_room rfl (.tmp 22) (.tmp 25) 22 rfl 25 i0 6 Tryz.underlying22 hi0 hz1 g 0 i c (by simp [Act.eval, Act.put]) ⟨g, (i + 1) * 6, none⟩ (q + 1 - (i + 1)) (c - (i + 1)) D (by simp [Act.eval, Act.put]) hdl HSRC.out HD1.out (by omega) HSP.out ?_)
    rw [show i + (q - i) = q by omega]
    obtain ⟨w3, HW3⟩ : ∃ w3, Hid (w3 = w.drew.setCells g (i * 6) D) := ⟨_, Lib.hid rfl⟩
    rw [← HW3.out]
    have hb3 : Blk w3 g 25 (splice cur.toList (i * 6) D).toArray := by rw [HW3.out]; exact blk_setCells D (i * 6) w.drew cur HGK.out.drew (by rw [HDL.out]; omega)
    have HO3 : Hid (Only (fun b => b = g) w w3) := Lib.hid (by rw [HW3.out]; exact Only.trans (Only.refl _ _).drew (only_setCells _ _ _))
    have hsz3 : (splice cur.toList (i * 6) D).toArray.size = c * 6 := by rw [List.size_toArray, length_splice _ _ _ (by rw [HDL.out, Array.length_toList]; omega), Array.length_toList, hcs]
    have hzs : (Builtin.zeroCells (Value.cells (.agg #[.int .i64 0, .int .i64 0, .int .i64 0, .string ByteArray.empty, .slice none 0 0, .slice none 0 0])) 1).size = 6 := by simp [Builtin.zeroCells, Value.cells]
    obtain ⟨w4, HB4, HO4, hclr⟩ : ∃ w4, Hid (Blk w4 g 25 (((splice cur.toList (i * 6) D).toArray.toList.take (q * 6) ++ (Builtin.zeroCells (Value.cells (.agg #[.int .i64 0, .int .i64 0, .int .i64 0, .string ByteArray.empty, .slice none 0 0, .slice none 0 0])) 1).toList ++ (splice cur.toList (i * 6) D).toArray.toList.drop (q * 6 + (Builtin.zeroCells (Value.cells (.agg #[.int .i64 0, .int .i64 0, .int .i64 0, .string ByteArray.empty, .slice none 0 0, .slice none 0 0])) 1).size)).toArray)) ∧ Hid (Only (fun b => b = g) w3 w4) ∧ ∀ ty cc, (Builtin.clear_ #[22] ty #[.slice (some ⟨g, q * 6, none⟩) 1 cc]).run Tryz.prog w3 = .ok (.tuple #[]) w4 :=
      ⟨_, setRow_heap w3 g _ _ _ _ hb3, only_setRow _ _ _, fun ty cc => run_clear_k w3 _ _ ty _ Tryz.underlying22 hzv g (q * 6) 1 cc (by omega) _ _ hb3 (by rw [hzs, hsz3]; omega) (by
        intro u hu
        have : u ∈ Value.cells (.agg #[.int .i64 0, .int .i64 0, .int .i64 0, .string ByteArray.empty, .slice none 0 0, .slice none 0 0]) := by
          simp [Builtin.zeroCells, Value.cells] at hu
          simp [Value.cells]
          obtain ⟨a, ha, rfl⟩ := hu
          obtain h | h | h | h | h | h | h : a = 0 ∨ a = 1 ∨ a = 2 ∨ a = 3 ∨ a = 4 ∨ a = 5 ∨ a = 6 := by omega
          all_goals (subst h; simp)
        simp [Value.cells] at this
        rcases this with rfl | rfl | rfl | rfl | rfl | rfl | rfl <;> rfl)⟩
    go_wp2_with fail
    go_ret
    have hS : (splice cur.toList (i * 6) D).take (q * 6) = cells VC.vals (L.take i ++ L.drop (i + 1)) := by
      have h1 : cur.toList.take (i * 6) = cells VC.vals (L.take i) := by
        have e2 : cells VC.vals L = cells VC.vals (L.take i) ++ cells VC.vals (L.drop i) := by rw [← cells_append, List.take_append_drop]
        have hl : (cells VC.vals (L.take i)).length = i * 6 := by rw [cells_length vlen, List.length_take]; congr 1; omega
        have h2 : (cells VC.vals L).take (i * 6) = cells VC.vals (L.take i) := by rw [e2, List.take_append_of_le_length (by omega), List.take_of_length_le (by omega)]
        rw [← h2, ← HTK.out, List.take_take, Nat.min_eq_left (by omega)]
      unfold splice
      rw [h1, ← List.append_assoc, List.take_append_of_le_length (by rw [List.length_append, cells_length vlen, List.length_take, HDL.out]; omega), List.take_of_length_le (by rw [List.length_append, cells_length vlen, List.length_take, HDL.out]; omega), cells_append, HD.out]
    have hlen : (splice cur.toList (i * 6) D).length = c * 6 := by rw [← hsz3, List.size_toArray]
    refine ⟨some ⟨g, 0, none⟩, c, rfl, ⟨?_, .inr ⟨g, c, _, rfl, HB.out, HB4.out, by omega, HCM.out, ?_, ?_⟩⟩, (HO3.out.trans HO4.out).mono (fun b e => by rw [e]; rfl)⟩
    · rw [cells_length vlen, List.length_append, List.length_take, List.length_drop, hL]
      congr 1
      omega
    · simp only [List.size_toArray, List.length_append, List.length_take, List.length_drop, hlen, Array.length_toList, hzs]
      omega
    · show List.take (q * 6) _ = _
      rw [List.toList_toArray, List.toList_toArray, List.append_assoc, List.take_append_of_le_length (by rw [List.length_take, hlen]; omega), List.take_take, Nat.min_self, hS]
end Go.Proofs.YtdccckoelnnnoaaGreatDoor
