/- Calendar: the contract of numbers. -/
import Derived.Test.YthkkjfofpoifiaaDoorCalN
namespace Go.Proofs.YthkkjfofpoifiaaDoor
open Go.RowKit

theorem infoInt : (Tryd.prog.info? 3).map (fun i => (i.zero, i.size, i.bytes)) = some (some (.int .i64 0), 1, 8) := by kernel_rfl

def intVals (l : List Nat) : List Value := l.map fun (n : Nat) => Value.int .i64 (n : Int)
def marksL (ms : List (ByteArray × Nat)) : List (List UInt8 × Nat) := ms.map fun x => (x.1.data.toList, x.2)
/-- What numbers returns. -/
def NumsPost (s : ByteArray) (ms : List (List UInt8 × Nat)) (w : World) (e : Ending) (w' : World) : Prop :=
  ((parseN ms s.data.toList = none ∧ e = .returned (.tuple #[.slice none 0 0, .string s, .bool false])) ∨
    (∃ ns rest v s', parseN ms s.data.toList = some (ns, rest) ∧ e = .returned (.tuple #[v, .string s', .bool true]) ∧ s'.data.toList = rest ∧ w'.ownsRow w.heap.size 3 1 v ns.length (intVals ns))) ∧ Below w.heap.size w w'

theorem row_form {w : World} {base : Nat} {e : TypeId} {size n : Nat} {v : Value} {xs : List Value} (h : w.ownsRow base e size v n xs) : ∃ A cap, v = .slice A n cap := by
  rcases h.2 with ⟨hv, h0⟩ | ⟨g, cap, cur, hv, _⟩
  · exact ⟨none, 0, by rw [h0]; exact hv⟩
  · exact ⟨_, _, hv⟩
theorem ns_nil (w : World) (base : Nat) : w.ownsRow base 3 1 (.slice none 0 0) ([] : List Nat).length (intVals []) := World.ownsRow_nil _ _ _ _

/-- Where the reading stands. -/
structure NumsAt (s : ByteArray) (ms : List (ByteArray × Nat)) (j : Nat) (ns : List Nat) (rest : ByteArray) : Prop where
  len : ns.length = j
  go : parseN (marksL ms) s.data.toList = (parseN ((marksL ms).drop j) rest.data.toList).map fun x => (ns ++ x.1, x.2)
  sz : rest.size ≤ s.size
theorem nums_start (s : ByteArray) (ms : List (ByteArray × Nat)) : NumsAt s ms 0 [] s := ⟨rfl, by simp, Nat.le_refl _⟩
theorem marks_drop {ms : List (ByteArray × Nat)} {j : Nat} {x : ByteArray × Nat} (h : ms[j]? = some x) : (marksL ms).drop j = (x.1.data.toList, x.2) :: (marksL ms).drop (j + 1) := by
  have hj : j < ms.length := (List.getElem?_eq_some_iff.1 h).1
  have hl : j < (marksL ms).length := by simpa [marksL] using hj
  rw [List.drop_eq_getElem_cons hl]
  congr 1
  have : ms[j] = x := by rw [List.getElem?_eq_getElem hj] at h; exact Option.some.inj h
  simp [marksL, this]
theorem nums_step {s : ByteArray} {ms : List (ByteArray × Nat)} {j : Nat} {ns : List Nat} {rest s1 s2 : ByteArray} {x : ByteArray × Nat} (h : NumsAt s ms j ns rest) (hx : ms[j]? = some x) (hp : x.1.data.toList.isPrefixOf rest.data.toList = true)
    (h1 : s1.data.toList = rest.data.toList.drop x.1.data.toList.length) (hn : numOK s1.data.toList x.2 = true) (h2 : s2.data.toList = s1.data.toList.drop x.2) : NumsAt s ms (j + 1) (ns ++ [numL (s1.data.toList.take x.2)]) s2 := by
  refine ⟨by rw [List.length_append, h.len]; rfl, ?_, ?_⟩
  · rw [h.go, marks_drop hx]
    simp only [parseN]
    rw [← h1, if_pos ⟨hp, hn⟩, ← h2, Option.map_map]
    congr 1
    funext y
    simp
  · have a := h.sz
    rw [← size_len] at a ⊢
    rw [h2, h1, List.length_drop, List.length_drop]
    omega
theorem nums_nomark {s : ByteArray} {ms : List (ByteArray × Nat)} {j : Nat} {ns : List Nat} {rest : ByteArray} {x : ByteArray × Nat} (h : NumsAt s ms j ns rest) (hx : ms[j]? = some x) (hp : ¬ x.1.data.toList.isPrefixOf rest.data.toList = true) : parseN (marksL ms) s.data.toList = none := by
  rw [h.go, marks_drop hx]
  simp only [parseN]
  rw [if_neg (fun y => hp y.1)]
  rfl
theorem nums_nonum {s : ByteArray} {ms : List (ByteArray × Nat)} {j : Nat} {ns : List Nat} {rest s1 : ByteArray} {x : ByteArray × Nat} (h : NumsAt s ms j ns rest) (hx : ms[j]? = some x)
    (h1 : s1.data.toList = rest.data.toList.drop x.1.data.toList.length) (hn : numOK s1.data.toList x.2 = false) : parseN (marksL ms) s.data.toList = none := by
  rw [h.go, marks_drop hx]
  simp only [parseN]
  rw [← h1, if_neg (fun y => by rw [hn] at y; exact absurd y.2 (by decide))]
  rfl
theorem nums_end {s : ByteArray} {ms : List (ByteArray × Nat)} {ns : List Nat} {rest : ByteArray} (h : NumsAt s ms ms.length ns rest) : parseN (marksL ms) s.data.toList = some (ns, rest.data.toList) := by
  rw [h.go, List.drop_of_length_le (by simp [marksL])]
  simp [parseN]

/-- strings.CutPrefix, in two. -/
theorem cut_yes (s p : ByteArray) (h : p.data.toList.isPrefixOf s.data.toList = true) (w : World) : Calls Tryd.prog 52 #[.string s, .string p] w fun e w' => (∃ s' : ByteArray, e = .returned (.tuple #[.string s', .bool true]) ∧ s'.data.toList = s.data.toList.drop p.data.toList.length) ∧ w = w' := by
  refine (Tryd.strings_CutPrefix s p w).mono ?_
  rintro e w' ⟨he, hw⟩
  refine ⟨⟨⟨(s.data.toList.drop p.data.toList.length).toArray⟩, ?_, rfl⟩, hw.symm⟩
  rw [he]
  unfold Lib.trimPrefix Lib.hasPrefix
  rw [if_pos h, h]
theorem cut_no (s p : ByteArray) (h : p.data.toList.isPrefixOf s.data.toList = false) (w : World) : Calls Tryd.prog 52 #[.string s, .string p] w fun e w' => e = .returned (.tuple #[.string s, .bool false]) ∧ w = w' := by
  refine (Tryd.strings_CutPrefix s p w).mono ?_
  rintro e w' ⟨he, hw⟩
  refine ⟨?_, hw.symm⟩
  rw [he]
  unfold Lib.trimPrefix Lib.hasPrefix
  rw [if_neg (by rw [h]; decide), h]

set_option maxRecDepth 100000 in
set_option maxHeartbeats 4000000 in
theorem numbers_any (s : ByteArray) (ms : List (ByteArray × Nat)) (n gm gd : Nat) (w : World) (hs : s.size ≤ 9223372036854775807) (hn : n = ms.length) (hn10 : n ≤ 10) (hk : ∀ x ∈ ms, x.2 ≤ 9) (hgm : gm < w.heap.size) (hgd : gd < w.heap.size)
    (hc : ∀ i x, ms[i]? = some x → w.cell? ⟨gm, i, none⟩ = some (.string x.1) ∧ w.cell? ⟨gd, i, none⟩ = some (.int .i64 (x.2 : Int))) :
    Calls Tryd.prog 48 #[.string s, .slice (some ⟨gm, 0, none⟩) n n, .slice (some ⟨gd, 0, none⟩) n n] w (NumsPost s (marksL ms) w) := by
  have HC := Lib.hid hc
  have HN := Lib.hid hn
  have HK := Lib.hid hk
  clear hc hn hk
  go_enter Tryd.func48, Tryd.ntmps48
  go_wp2_with fail
  go_loopw [6, 7, 15] (fun lv rv i wx => ∃ (j : Nat) (ns : List Nat) (rest : ByteArray), i = .int .i64 (j : Int) ∧ j ≤ n ∧ rv = .string rest ∧ rest.size ≤ 9223372036854775807 ∧ Hid (wx.ownsRow w.heap.size 3 1 lv ns.length (intVals ns)) ∧ Hid (NumsAt s ms j ns rest) ∧ Hid (Below w.heap.size w wx)) (fun _ _ i _ => n - (intOf i).toNat)
  case atStart => exact ⟨0, [], s, rfl, Nat.zero_le _, rfl, hs, Lib.hid (ns_nil _ _), Lib.hid (nums_start s ms), Lib.hid (Below.refl _ _)⟩
  case round =>
    obtain ⟨j, ns, rest, rfl, hj, rfl, hrs, HOWN, HA, HB⟩ := hrel
    obtain ⟨A6, cap6, rfl⟩ := row_form HOWN.out
    by_cases hjn : j < n
    · have hjI : (j : Int) < (n : Int) := by omega
      have hj0 : (0 : Int) ≤ (j : Int) := by omega
      obtain ⟨x, hx⟩ : ∃ x, ms[j]? = some x := ⟨_, List.getElem?_eq_getElem (by rw [← HN.out]; exact hjn)⟩
      have hcc := HC.out j x hx
      have hm0 : wr.cell? ⟨gm, j, none⟩ = some (.string x.1) := (HB.out.cell (p := ⟨gm, j, none⟩) hgm).trans hcc.1
      have hd0 : wr.cell? ⟨gd, j, none⟩ = some (.int .i64 (x.2 : Int)) := (HB.out.cell (p := ⟨gd, j, none⟩) hgd).trans hcc.2
      have hx9 : x.2 ≤ 9 := HK.out x (List.mem_of_getElem? hx)
      have HX := Lib.hid hx
      obtain ⟨mk, k⟩ := x
      clear hx hcc
      by_cases hp : mk.data.toList.isPrefixOf rest.data.toList = true
      · have HP := Lib.hid hp
        clear hp
        go_wp2_with fail
        refine (cut_yes rest mk HP.out _).mono ?_
        rintro e w' ⟨⟨s1, rfl, hs1⟩, rfl⟩
        have HS1 := Lib.hid hs1
        have hs1z : s1.size ≤ 9223372036854775807 := by
          rw [← size_len, hs1, List.length_drop, size_len]; omega
        clear hs1
        go_wp2_with fail
        refine (number_any s1 k hx9 hs1z _).mono ?_
        rintro e w2 ⟨(⟨hok, s2, rfl, hs2⟩ | ⟨hok, rfl⟩), hb2⟩
        · have HST := Lib.hid (nums_step HA.out HX.out HP.out HS1.out hok hs2)
          have hs2z : s2.size ≤ 9223372036854775807 := by
            rw [← size_len, hs2, List.length_drop, size_len]; omega
          obtain ⟨v, HV⟩ : ∃ v, Hid (v = numL (s1.data.toList.take k)) := ⟨_, Lib.hid rfl⟩
          rw [← HV.out] at HST ⊢
          have HB2 := Lib.hid (below_trans HB.out hb2)
          have HO2 : Hid (w2.ownsRow w.heap.size 3 1 (.slice A6 ns.length cap6) ns.length (intVals ns)) := Lib.hid ((Only.of_below hb2 Nobody).row HOWN.out (fun _ _ x => x))
          clear hb2 hok hs2
          obtain ⟨i0, hi0, hz0, hz1, hz2⟩ := info_parts infoInt
          have HW2 : Hid ((w2.alloc (.cells #[.int .i64 (v : Int)] 3)).ownsRow w.heap.size 3 1 (.slice A6 ns.length cap6) ns.length (intVals ns)) := Lib.hid (HO2.out.alloc _)
          have HR : Hid (Reads (w2.alloc (.cells #[.int .i64 (v : Int)] 3)) (w2.heap.size + 1) 1 (some ⟨w2.heap.size, 0, none⟩) 1 [.int .i64 (v : Int)]) := Lib.hid (reads_alloc w2 3 #[.int .i64 (v : Int)] 1 1 rfl)
          have HBB : Hid (w.heap.size ≤ (w2.alloc (.cells #[.int .i64 (v : Int)] 3)).heap.size) := Lib.hid (by have := HB2.out.size; simp; omega)
          have HLN : Hid (ns.length ≤ 10) := Lib.hid (by rw [HA.out.len]; omega)
          have HBY : Hid (ns.length + 1 ≤ maxLen ∧ (ns.length + 1) * 8 ≤ 140737488355328) := Lib.hid ⟨by have := HLN.out; unfold maxLen; omega, by have := HLN.out; omega⟩
          have HU : Hid (∀ u ∈ [Value.int .i64 (v : Int)], u.oneCell' = true) := Lib.hid (by intro u hu; simp only [List.mem_cons, List.not_mem_nil, or_false] at hu; rcases hu with rfl; rfl)
          go_wp2_with (at_builtin; refine wpList_append_any _ rfl (.tmp 42) (.tmp 44) _ rfl w.heap.size 3 i0 _ 1 8 Tryd.underlying48 hi0 hz0 hz1 hz2 rfl (by omega) (.slice A6 ns.length cap6) ns.length (intVals ns) rfl HW2.out _ (some ⟨w2.heap.size, 0, none⟩) 1 1 [.int .i64 (v : Int)] rfl HR.out HU.out HBY.out.1 HBY.out.2 HBB.out ?_
                       intro v2 w3 hown2 hg2 hat2
                       have HO3 := Lib.hid hown2
                       have HG3 := Lib.hid hg2
                       clear hown2 hg2 hat2)
          go_roundw
          case rel =>
            refine ⟨j + 1, ns ++ [v], s2, by go_num, by omega, rfl, hs2z, Lib.hid ?_, HST, Lib.hid ?_⟩
            · have := HO3.out
              rw [List.length_append]
              unfold intVals at this ⊢
              rw [List.map_append]
              exact this
            · exact (HB2.out.alloc HB2.out.size _).grown HG3.out HBB.out (fun g hg => (HW2.out.lt g hg).1)
          case measure => simp [intOf]; omega
        · have HNO := Lib.hid (nums_nonum HA.out HX.out HS1.out hok)
          have HB2 := Lib.hid (below_trans HB.out hb2)
          clear hb2 hok
          go_wp2_with fail
          go_ret3
          exact ⟨.inl ⟨HNO.out, rfl⟩, HB2.out⟩
      · have HNO := Lib.hid (nums_nomark HA.out HX.out hp)
        have HP : Hid (mk.data.toList.isPrefixOf rest.data.toList = false) := Lib.hid (by simpa using hp)
        clear hp
        go_wp2_with fail
        refine (cut_no rest mk HP.out _).mono ?_
        rintro e w' ⟨rfl, rfl⟩
        go_wp2_with fail
        go_ret3
        exact ⟨.inl ⟨HNO.out, rfl⟩, HB.out⟩
    · obtain rfl : n = j := by omega
      have HE : Hid (parseN (marksL ms) s.data.toList = some (ns, rest.data.toList)) := Lib.hid (by
        have := HA.out
        rw [HN.out] at this
        exact nums_end this)
      go_wp2_with fail
      go_ret3
      exact ⟨.inr ⟨ns, _, _, rest, HE.out, rfl, rfl, HOWN.out⟩, HB.out⟩

end Go.Proofs.YthkkjfofpoifiaaDoor
