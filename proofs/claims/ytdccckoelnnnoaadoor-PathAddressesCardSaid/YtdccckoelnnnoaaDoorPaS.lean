/- Path: the library's variables; Cut, Atoi, HasPrefix; take. -/
import Derived.Test.YtdccckoelnnnoaaDoorPaO
import Derived.Shelf.Vars
namespace Go.Proofs.YtdccckoelnnnoaaDoor
open Go.RowKit
attribute [local go_sem ↓] Go.wp_at_zero Go.wp_at_succ

def decNum (s : ByteArray) : Int := match Lib.atoiAll s.data.toList with
  | .ok v => v
  | .range => Lib.atoiSat s.data.toList
  | _ => 0
def numOk (s : ByteArray) : Bool := match Lib.atoiAll s.data.toList with
  | .ok _ => true
  | _ => false
theorem decNum_bd (s : ByteArray) : -9223372036854775808 ≤ decNum s ∧ decNum s ≤ 9223372036854775807 := by
  unfold decNum
  cases h : Lib.atoiAll s.data.toList with
  | ok v => exact atoi_bd h
  | range => simp only []; unfold Lib.atoiSat; split <;> omega
  | _ => simp only []; omega

/-- What the walks read of the library's variables. -/
structure Std (w : World) : Prop where
  tab : CalTab w
  ml : ∃ m, w.cell? ⟨0, 0, none⟩ = some (.int .i64 m)
  es : ∃ tp p, w.cell? ⟨1, 0, none⟩ = some (.iface tp p)
  er : ∃ tp p, w.cell? ⟨2, 0, none⟩ = some (.iface tp p)
theorem cell_lt {w : World} {b o : Nat} {u : Value} (h : w.cell? ⟨b, o, none⟩ = some u) : b < w.heap.size := by
  rcases Nat.lt_or_ge b w.heap.size with h1 | h1
  · exact h1
  · simp [World.cell?, Array.getElem?_eq_none h1] at h
theorem Std.same {w w' : World} (h : Std w) (ho : Only Nobody w w') : Std w' := by
  obtain ⟨m, hm⟩ := h.ml
  obtain ⟨t1, p1, h1⟩ := h.es
  obtain ⟨t2, p2, h2⟩ := h.er
  exact ⟨h.tab.same ho, ⟨m, (ho.cell (p := ⟨_, 0, none⟩) (cell_lt hm) (fun x => x)).trans hm⟩, ⟨t1, p1, (ho.cell (p := ⟨_, 0, none⟩) (cell_lt h1) (fun x => x)).trans h1⟩, ⟨t2, p2, (ho.cell (p := ⟨_, 0, none⟩) (cell_lt h2) (fun x => x)).trans h2⟩⟩

theorem cut_any (s : ByteArray) (c : UInt8) (hs : s.size ≤ 1000000) (w : World) (h : Std w) : Calls Tryd.prog 59 #[.string s, .string ⟨#[c]⟩] w fun e w' => e = .returned (.tuple #[.string (bs (Lib.cut s.data.toList [c]).1), .string (bs (Lib.cut s.data.toList [c]).2.1), .bool (Lib.cut s.data.toList [c]).2.2]) ∧ Only Nobody w w' := by
  obtain ⟨m, hm⟩ := h.ml
  refine (Tryd.strings_Cut s ⟨#[c]⟩ m w (by omega) hm).mono ?_
  rintro e w' ⟨rfl, n, rfl⟩
  exact ⟨rfl, (Only.refl _ _).drewN n⟩
theorem bytes_only (w : World) (t : ByteArray) : Only Nobody w (Lib.bytesWorld w 5 t) := by
  refine ⟨rfl, rfl, rfl, ?_, fun k hk _ => ?_⟩
  · simp [Lib.bytesWorld, World.freeze]
  · have h : k ≠ w.heap.size := by omega
    simp [Lib.bytesWorld, World.freeze, World.alloc, Array.getElem?_modify, Array.getElem?_push, h, Ne.symm h]
    rfl
def AtoiPost (s : ByteArray) (w : World) (e : Ending) (w' : World) : Prop := ∃ ev, e = .returned (.tuple #[.int .i64 (decNum s), ev]) ∧ (numOk s = true → ev = .nilIface) ∧ (numOk s = false → ∃ t p, ev = .iface t p) ∧ Only Nobody w w'
theorem atoi_any (s : ByteArray) (hs : s.size ≤ 1000000) (w : World) (h : Std w) : Calls Tryd.prog 60 #[.string s] w (AtoiPost s w) := by
  obtain ⟨t1, p1, h1⟩ := h.es
  obtain ⟨t2, p2, h2⟩ := h.er
  cases hr : Lib.atoiAll s.data.toList with
  | ok v =>
    refine (Tryd.strconv_Atoi_ok s (by omega) v hr w).mono ?_
    rintro e w' ⟨rfl, hw⟩
    refine ⟨.nilIface, by unfold decNum; rw [hr], fun _ => rfl, fun e => (by unfold numOk at e; rw [hr] at e; cases e), ?_⟩
    rcases hw with rfl | ⟨t, rfl⟩
    · exact Only.refl _ _
    · exact bytes_only w t
  | range =>
    refine (Tryd.strconv_Atoi_range s (by omega) hr _ w h2 (.inr ⟨t2, p2, rfl⟩)).mono ?_
    rintro e w' ⟨N, rfl, _, _, hb⟩
    exact ⟨_, by unfold decNum; rw [hr], fun e => (by unfold numOk at e; rw [hr] at e; cases e), fun _ => ⟨_, _, rfl⟩, Only.of_below hb Nobody⟩
  | _ =>
    refine (Any.strconv_Atoi_syntax Tryd.laysC172 s (by omega) hr _ w h1 (.inr ⟨t1, p1, rfl⟩)).mono ?_
    rintro e w' ⟨N, rfl, _, _, hb⟩
    exact ⟨_, by unfold decNum; rw [hr], fun e => (by unfold numOk at e; rw [hr] at e; cases e), fun _ => ⟨_, _, rfl⟩, Only.of_below hb Nobody⟩


/-! take. -/
theorem extract_bs {s : ByteArray} {l : List UInt8} (h : s.data.toList = l) (a b : Nat) : s.extract a b = bs ((l.drop a).take (b - a)) := by
  apply str_ext
  rw [bs_data, ByteArray.data_extract, Array.toList_extract, h]
set_option maxRecDepth 100000 in
set_option maxHeartbeats 4000000 in
/-- The closure 'end' at 1. -/
theorem end_any (s : ByteArray) (b : Nat) (c : UInt8) (r : List UInt8) (hs : s.data.toList = c :: r) (hz : s.size ≤ 1000) (w : World) (hb : w.cell? ⟨b, 0, none⟩ = some (.string s)) : Calls Tryd.prog 56 #[.int .i64 1, .pointer (some ⟨b, 0, none⟩)] w fun e w' => e = .returned (.int .i64 (1 + ((upTo r).length : Int))) ∧ Only Nobody w w' := by
  have hsz : s.size = r.length + 1 := by rw [← size_len, hs]; rfl
  have h1 : 1 ≤ s.size := by omega
  have hx : s.extract 1 s.size = bs r := by rw [extract_bs hs]; simp [hsz]
  have hle : (upTo r).length ≤ r.length := (List.takeWhile_prefix _).length_le
  obtain ⟨n, HN⟩ : ∃ n, Hid ((upTo r).length = n) := ⟨_, Lib.hid rfl⟩
  have HST := Lib.hid (stopAt_eq r)
  rw [HN.out] at hle HST ⊢
  have HEX : Hid (∀ w, Calls Tryd.prog 57 #[.string (s.extract 1 s.size), .string ⟨#[46, 91, 63]⟩] w fun e w' => e = .returned (.int .i64 (stopAt r)) ∧ Only Nobody w w') := Lib.hid fun w => by
    rw [hx]
    have := stop_any (bs r) (by rw [bs_size]; omega) w
    rw [bs_data] at this
    exact this
  have HSB : Hid (∀ w', Only Nobody w w' → w'.cell? ⟨b, 0, none⟩ = some (.string s)) := Lib.hid fun w' ho => (ho.cell (p := ⟨b, 0, none⟩) (by
      rcases Nat.lt_or_ge b w.heap.size with h1 | h1
      · exact h1
      · simp [World.cell?, Array.getElem?_eq_none h1] at hb) (fun x => x)).trans hb
  have h1I : (1 : Int) ≤ (s.size : Int) := by omega
  clear hx hs
  by_cases hn : n = r.length
  · have HSV : Hid (stopAt r = -1) := Lib.hid (by rw [HST.out, if_pos hn])
    have HF : Hid ((s.size : Int) = 1 + (n : Int)) := Lib.hid (by rw [hsz, hn]; push_cast; omega)
    clear hn hsz hle
    go_enter Tryd.func56, Tryd.ntmps56
    go_wp2_with fail
    refine (HEX.out _).mono ?_
    rw [HSV.out]
    rintro e w1 ⟨rfl, ho⟩
    have HO := Lib.hid ho
    have hb1 := HSB.out _ ho
    clear ho
    go_wp2_with fail
    go_ret
    exact ⟨ret_int HF.out, HO.out⟩
  · have HSV : Hid (stopAt r = (n : Int)) := Lib.hid (by rw [HST.out, if_neg hn])
    have hn0 : (0 : Int) ≤ (n : Int) := by omega
    have hnI : (n : Int) ≤ 1000 := by omega
    clear hn hsz hle
    go_enter Tryd.func56, Tryd.ntmps56
    go_wp2_with fail
    refine (HEX.out _).mono ?_
    rw [HSV.out]
    rintro e w1 ⟨rfl, ho⟩
    have HO := Lib.hid ho
    clear ho
    go_wp2_with fail
    go_ret
    exact ⟨rfl, HO.out⟩

def TakeFact (s : ByteArray) (p : Pt) (rest : ByteArray) (is : Bool) : Prop :=
  (is && validB p) = (stepP s.data.toList).isSome ∧ (∀ q r, stepP s.data.toList = some (q, r) → p = q ∧ rest.data.toList = r)
def TakePost (s : ByteArray) (w : World) (e : Ending) (w' : World) : Prop :=
  ∃ k i n rest is, e = .returned (.tuple #[.agg #[.int .i64 k, .int .i64 i, .string n], .string rest, .bool is]) ∧ TakeFact s ⟨k, i, n⟩ rest is ∧ Only Nobody w w'
theorem take_name {s : ByteArray} {c : UInt8} {r : List UInt8} (hs : s.data.toList = c :: r) (hc : c = 46 ∨ c = 63) : TakeFact s ⟨kindOf c, 0, s.extract 1 (1 + (upTo r).length)⟩ (s.extract (1 + (upTo r).length) s.size) true := by
  have hsz : s.size = r.length + 1 := by rw [← size_len, hs]; rfl
  have e1 : s.extract 1 (1 + (upTo r).length) = bs (upTo r) := by
    rw [extract_bs hs, show 1 + (upTo r).length - 1 = (upTo r).length by omega]
    simp [upTo_take]
  have e2 : (s.extract (1 + (upTo r).length) s.size).data.toList = r.drop (upTo r).length := by
    rw [extract_bs hs, bs_data, Nat.add_comm 1, List.drop_succ_cons, List.take_of_length_le (by rw [List.length_drop]; omega)]
  have hk : kindOf c = 1 ∨ kindOf c = 4 := by
    unfold kindOf
    split
    · exact .inl rfl
    · exact .inr rfl
  have hv : validB ⟨kindOf c, 0, bs (upTo r)⟩ = nameL (upTo r) := by
    unfold validB
    rw [if_pos hk, nameB_bs]
    simp
  have hst : stepP (c :: r) = if nameL (upTo r) = true then some (⟨kindOf c, 0, bs (upTo r)⟩, r.drop (upTo r).length) else none := by
    simp only [stepP]
    rw [if_pos hc]
  unfold TakeFact
  rw [hs, hst, e1, hv, e2]
  cases hn : nameL (upTo r) with
  | true => exact ⟨rfl, fun q x h => by rw [if_pos rfl] at h; injection h with h; injection h with h1 h2; exact ⟨h1, h2⟩⟩
  | false => exact ⟨rfl, fun q x h => by rw [if_neg (by decide)] at h; cases h⟩
theorem take_all {s : ByteArray} {r : List UInt8} (hs : s.data.toList = 91 :: 42 :: 93 :: r) : TakeFact s ⟨3, 0, ⟨#[]⟩⟩ (s.extract 3 s.size) true := by
  have hsz : s.size = r.length + 3 := by rw [← size_len, hs]; rfl
  have e2 : (s.extract 3 s.size).data.toList = r := by rw [extract_bs hs, bs_data]; simp [hsz]
  have hcut : Lib.cut (42 :: 93 :: r) [93] = ([42], r, true) := cut_app (a := [42]) (by decide)
  have hst : stepP (91 :: 42 :: 93 :: r) = some (⟨3, 0, ⟨#[]⟩⟩, r) := by
    have hb : brack (42 :: 93 :: r) = some (⟨3, 0, ⟨#[]⟩⟩, r) := by
      unfold brack
      rw [hcut]
      rfl
    rw [← hb]
    rfl
  unfold TakeFact
  rw [hs, hst, e2]
  refine ⟨rfl, fun q x h => ?_⟩
  injection h with h
  injection h with h1 h2
  exact ⟨h1, h2⟩
theorem take_other {s : ByteArray} {c : UInt8} {r : List UInt8} (hs : s.data.toList = c :: r) (h1 : c ≠ 46) (h2 : c ≠ 63) (h3 : c ≠ 91) (p : Pt) (rest : ByteArray) : TakeFact s p rest false := by
  have hst : stepP (c :: r) = none := by
    simp only [stepP]
    rw [if_neg (by rintro (h | h); exact h1 h; exact h2 h), if_neg h3]
  unfold TakeFact
  rw [hs, hst]
  exact ⟨rfl, fun q x h => by cases h⟩
theorem brack_none {r : List UInt8} (h : (Lib.cut r [93]).2.2 = false) : brack r = none := by unfold brack; rw [if_neg (by rw [h]; decide)]
theorem cut_found {r : List UInt8} (h : (Lib.cut r [93]).2.2 = true) : r = (Lib.cut r [93]).1 ++ 93 :: (Lib.cut r [93]).2.1 := by
  by_cases hm : (93 : UInt8) ∈ r
  · obtain ⟨a, b, rfl, ha⟩ := List.eq_append_cons_of_mem hm
    rw [cut_app ha]
  · rw [cut_no hm] at h; cases h
/-- The last way of take: an index in brackets. -/
def numF (r : List UInt8) : Bool := (Lib.cut r [93]).2.2 && numOk (bs (Lib.cut r [93]).1)
theorem take_index {s : ByteArray} {r : List UInt8} (hs : s.data.toList = 91 :: r) (hp : ∀ x, r ≠ 42 :: 93 :: x) (is : Bool)
    (his : is = ((Lib.cut r [93]).2.2 && numOk (bs (Lib.cut r [93]).1) && decide (Lib.itoa (decNum (bs (Lib.cut r [93]).1)) = (Lib.cut r [93]).1))) :
    TakeFact s ⟨2, decNum (bs (Lib.cut r [93]).1), ⟨#[]⟩⟩ (bs (Lib.cut r [93]).2.1) is := by
  have hst : stepP (91 :: r) = brack r := rfl
  have hnd : numOk (bs (Lib.cut r [93]).1) = true → Lib.atoiAll (Lib.cut r [93]).1 = .ok (decNum (bs (Lib.cut r [93]).1)) := by
    intro h
    unfold numOk at h
    unfold decNum
    rw [bs_data] at h ⊢
    cases hx : Lib.atoiAll (Lib.cut r [93]).1 with
    | ok v => rfl
    | _ => rw [hx] at h; cases h
  have h42 : (Lib.cut r [93]).2.2 = true → ¬ (Lib.cut r [93]).1 = [42] := fun h e => hp (Lib.cut r [93]).2.1 (by
    have := cut_found h
    rw [e] at this
    exact this)
  have hdn : ∀ i : Nat, i < 256 → (Lib.cut r [93]).1 = Lib.decDigits i → decNum (bs (Lib.cut r [93]).1) = (i : Int) ∧ numOk (bs (Lib.cut r [93]).1) = true := by
    intro i hi e
    have := atoi_dec i (by omega)
    unfold decNum numOk
    rw [bs_data, e, this]
    exact ⟨rfl, rfl⟩
  unfold TakeFact
  rw [hs, hst, bs_data]
  generalize hN : decNum (bs (Lib.cut r [93]).1) = N at *
  generalize hI : (Lib.cut r [93]).1 = I at *
  generalize hR : (Lib.cut r [93]).2.1 = R at *
  have hv : validB ⟨2, N, ⟨#[]⟩⟩ = (decide (0 ≤ N) && decide (N < 256)) := by
    unfold validB
    simp
    rfl
  cases hf : (Lib.cut r [93]).2.2 with
  | false =>
    have : brack r = none := brack_none hf
    rw [this, his, hf]
    exact ⟨rfl, fun q x h => by cases h⟩
  | true =>
    have hb : brack r = (numL I).map fun (i : Nat) => (⟨2, (i : Int), ⟨#[]⟩⟩, R) := by
      unfold brack
      rw [if_pos hf, hI, hR, if_neg (by rw [← hI] at h42 ⊢; exact h42 hf)]
    cases hn : numL I with
    | some i =>
      obtain ⟨hi, hd⟩ := numL_some hn
      obtain ⟨e1, e2⟩ := hdn i hi hd.symm
      subst e1
      have e3 : decide (Lib.itoa (i : Int) = I) = true := decide_eq_true (by rw [← hd]; simp [Lib.itoa])
      rw [hb, hn, his, hf, e2, e3, hv, decide_eq_true (show (0 : Int) ≤ i by omega), decide_eq_true (show (i : Int) < 256 by omega)]
      refine ⟨rfl, fun q x h => ?_⟩
      injection h with h
      injection h with h1 h2
      exact ⟨h1, h2⟩
    | none =>
      rw [hb, hn]
      refine ⟨?_, fun q x h => by cases h⟩
      show _ = false
      rw [his, hf, hv]
      cases hk : numOk (bs I) with
      | false => rfl
      | true =>
        by_cases h0 : 0 ≤ N ∧ N < 256
        · by_cases hx : Lib.itoa N = I
          · exfalso
            obtain ⟨j, rfl⟩ : ∃ j : Nat, N = (j : Int) := ⟨N.toNat, by omega⟩
            have e : Lib.itoa (j : Int) = Lib.decDigits j := by simp [Lib.itoa]
            rw [e] at hx
            have := numL_of (i := j) (by omega)
            rw [hx, hn] at this
            cases this
          · rw [decide_eq_false hx]; simp
        · by_cases h1 : 0 ≤ N
          · rw [decide_eq_false (show ¬ N < 256 from fun h => h0 ⟨h1, h⟩)]; simp
          · rw [decide_eq_false h1]; simp
end Go.Proofs.YtdccckoelnnnoaaDoor
