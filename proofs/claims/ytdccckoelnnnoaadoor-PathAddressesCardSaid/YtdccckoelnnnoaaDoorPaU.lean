/- Path: contract of take. -/
import Derived.Test.YtdccckoelnnnoaaDoorPaS
import Derived.BigRegion
import Derived.Deep.RegionWith
namespace Go.Proofs.YtdccckoelnnnoaaDoor
open Go.RowKit
attribute [local go_sem ↓] Go.wp_at_zero Go.wp_at_succ

theorem pre_yes {s : ByteArray} {r : List UInt8} (h : s.data.toList = 91 :: 42 :: 93 :: r) : Lib.hasPrefix s.data.toList (ByteArray.data ⟨#[91, 42, 93]⟩).toList = true := by rw [h]; rfl
theorem pre_no {s : ByteArray} (h : ∀ r, s.data.toList ≠ 91 :: 42 :: 93 :: r) : Lib.hasPrefix s.data.toList (ByteArray.data ⟨#[91, 42, 93]⟩).toList = false := by
  cases hx : Lib.hasPrefix s.data.toList (ByteArray.data ⟨#[91, 42, 93]⟩).toList with
  | false => rfl
  | true =>
    obtain ⟨t, ht⟩ := List.isPrefixOf_iff_prefix.1 hx
    exact absurd ht.symm (h t)
theorem bytes_eq2 (x a : ByteArray) : (x.toList == a.toList) = decide (x = a) := by
  by_cases h : x = a
  · subst h; simp
  · rw [decide_eq_false h]
    have : ¬ x.toList = a.toList := fun e => h (str_ext (by rw [toList_data, toList_data] at e; exact e))
    simpa using this
set_option maxRecDepth 100000 in
set_option maxHeartbeats 8000000 in
theorem take_any (s : ByteArray) (h1 : 1 ≤ s.size) (hz : s.size ≤ 1000) (w : World) (h : Std w) : Calls Tryd.prog 42 #[.string s] w (TakePost s w) := by
  have HS := Lib.hid h
  obtain ⟨c, r, hs⟩ : ∃ c r, s.data.toList = c :: r := by
    cases hx : s.data.toList with
    | nil => rw [← size_len, hx] at h1; simp at h1
    | cons c r => exact ⟨c, r, rfl⟩
  have HL := Lib.hid hs
  have hr : s.size = r.length + 1 := by rw [← size_len, hs]; rfl
  have hs0 : 0 < s.size := h1
  have hb0 : (s[0]'hs0).toNat = c.toNat := by
    have : s.data.toList[0]? = some (s[0]'hs0) := Lib.data_getElem? s 0 hs0
    rw [hs] at this
    simp at this
    rw [this]
  obtain ⟨cn, HCN⟩ : ∃ cn, Hid (c.toNat = cn) := ⟨_, Lib.hid rfl⟩
  rw [HCN.out] at hb0
  have HB0 : Hid (Blk ((w.alloc (.cells #[.string s] 9)).alloc (.cells #[.int .i64 0, .int .i64 0, .string ⟨#[]⟩] 61)) w.heap.size 9 #[.string s]) := Lib.hid ((Blk.new w _ _).alloc _)
  have HR0 : Hid (Blk ((w.alloc (.cells #[.string s] 9)).alloc (.cells #[.int .i64 0, .int .i64 0, .string ⟨#[]⟩] 61)) (w.heap.size + 1) 61 #[.int .i64 0, .int .i64 0, .string ⟨#[]⟩]) := Lib.hid (by
    have := Blk.new (w.alloc (.cells #[.string s] 9)) 61 #[.int .i64 0, .int .i64 0, .string ⟨#[]⟩]
    simpa using this)
  have HOA : Hid (Only Nobody w ((w.alloc (.cells #[.string s] 9)).alloc (.cells #[.int .i64 0, .int .i64 0, .string ⟨#[]⟩] 61))) := Lib.hid (((Only.refl _ _).alloc _).alloc _)
  have HEND : Hid (∀ w b, w.cell? ⟨b, 0, none⟩ = some (.string s) → Calls Tryd.prog 56 #[.int .i64 1, .pointer (some ⟨b, 0, none⟩)] w fun e w' => e = .returned (.int .i64 (1 + ((upTo r).length : Int))) ∧ Only Nobody w w') := Lib.hid fun w b hb => end_any s b c r hs hz w hb
  have hle : (upTo r).length ≤ r.length := (List.takeWhile_prefix _).length_le
  obtain ⟨n, HN⟩ : ∃ n, Hid ((upTo r).length = n) := ⟨_, Lib.hid rfl⟩
  rw [HN.out] at HEND hle
  have hnI : (n : Int) + 1 ≤ (s.size : Int) := by omega
  have hn0 : (0 : Int) ≤ (n : Int) := by omega
  have h1I : (1 : Int) ≤ (s.size : Int) := by omega
  have hwn : (1 + (n : Int)).toNat = 1 + n := by omega
  have hn1 : (1 : Int) ≤ 1 + (n : Int) := by omega
  have hn2 : 1 + (n : Int) ≤ (s.size : Int) := by omega
  clear hs hr hle h
  by_cases hp : ∃ x, s.data.toList = 91 :: 42 :: 93 :: x
  · obtain ⟨x, hx⟩ := hp
    have HPRE := Lib.hid (pre_yes hx)
    have HF := Lib.hid (take_all hx)
    have h3I : (3 : Int) ≤ (s.size : Int) := by
      have : s.size = x.length + 3 := by rw [← size_len, hx]; rfl
      omega
    clear hx
    go_enter Tryd.func42, Tryd.ntmps42
    go_wp2_with fail
    refine (HEND.out _ w.heap.size (HB0.out.cell 0)).mono ?_
    rintro e w1 ⟨rfl, ho⟩
    have HB1 := Lib.hid (ho.blk HB0.out (fun x => x))
    have HR1 := Lib.hid (ho.blk HR0.out (fun x => x))
    have HO1 := Lib.hid (HOA.out.trans ho)
    have b0 : w1.cell? ⟨w.heap.size, 0, none⟩ = some (.string s) := HB1.out.cell 0
    have r0 : w1.cell? ⟨w.heap.size + 1, 0, none⟩ = some (.int .i64 0) := HR1.out.cell 0
    have r1 : w1.cell? ⟨w.heap.size + 1, 1, none⟩ = some (.int .i64 0) := HR1.out.cell 1
    have r2 : w1.cell? ⟨w.heap.size + 1, 2, none⟩ = some (.string ⟨#[]⟩) := HR1.out.cell 2
    have f0 : w1.frozen? ⟨w.heap.size + 1, 0, none⟩ = false := HR1.out.frozen 0
    have f1 : w1.frozen? ⟨w.heap.size + 1, 1, none⟩ = false := HR1.out.frozen 1
    have f2 : w1.frozen? ⟨w.heap.size + 1, 2, none⟩ = false := HR1.out.frozen 2
    clear ho
    go_wp2_with fail
    refine (Tryd.strings_HasPrefix _ _ _).mono ?_
    rw [HPRE.out]
    rintro e w' ⟨rfl, rfl⟩
    go_wp2_with fail
    go_region
    go_wp2_with fail
    exact bodyPost_ret (v := .tuple #[.agg #[.int .i64 3, .int .i64 0, .string ⟨#[]⟩], .string (s.extract 3 s.size), .bool true]) (by simp [results, Tryd.results42, go_sem, r0, r1, r2]) rfl ⟨_, _, _, _, _, rfl, HF.out, (((HO1.out.setCell (p := ⟨w.heap.size + 1, 0, none⟩) (.inr (Nat.le_succ _)) _).setCell (p := ⟨w.heap.size + 1, 1, none⟩) (.inr (Nat.le_succ _)) _).setCell (p := ⟨w.heap.size + 1, 2, none⟩) (.inr (Nat.le_succ _)) _).drew⟩
  have HPRE := Lib.hid (pre_no (s := s) (fun r h => hp ⟨r, h⟩))
  by_cases hc46 : c = 46
  · subst hc46
    have HF := Lib.hid (take_name HL.out (.inl rfl))
    rw [HN.out, show kindOf 46 = 1 from rfl] at HF
    obtain rfl : cn = 46 := HCN.out.symm
    clear hp
    go_enter Tryd.func42, Tryd.ntmps42
    go_wp2_with fail
    refine (HEND.out _ w.heap.size (HB0.out.cell 0)).mono ?_
    rintro e w1 ⟨rfl, ho⟩
    have HB1 := Lib.hid (ho.blk HB0.out (fun x => x))
    have HR1 := Lib.hid (ho.blk HR0.out (fun x => x))
    have HO1 := Lib.hid (HOA.out.trans ho)
    have b0 : w1.cell? ⟨w.heap.size, 0, none⟩ = some (.string s) := HB1.out.cell 0
    have r0 : w1.cell? ⟨w.heap.size + 1, 0, none⟩ = some (.int .i64 0) := HR1.out.cell 0
    have r1 : w1.cell? ⟨w.heap.size + 1, 1, none⟩ = some (.int .i64 0) := HR1.out.cell 1
    have r2 : w1.cell? ⟨w.heap.size + 1, 2, none⟩ = some (.string ⟨#[]⟩) := HR1.out.cell 2
    have f0 : w1.frozen? ⟨w.heap.size + 1, 0, none⟩ = false := HR1.out.frozen 0
    have f1 : w1.frozen? ⟨w.heap.size + 1, 1, none⟩ = false := HR1.out.frozen 1
    have f2 : w1.frozen? ⟨w.heap.size + 1, 2, none⟩ = false := HR1.out.frozen 2
    clear ho
    go_wp2_with fail
    refine (Tryd.strings_HasPrefix _ _ _).mono ?_
    rw [HPRE.out]
    rintro e w' ⟨rfl, rfl⟩
    go_wp2_with fail
    go_region
    go_wp2_with fail
    exact bodyPost_ret (v := .tuple #[.agg #[.int .i64 1, .int .i64 0, .string (s.extract 1 (1 + n))], .string (s.extract (1 + n) s.size), .bool true]) (by simp [results, Tryd.results42, go_sem, r0, r1, r2]) rfl ⟨_, _, _, _, _, rfl, HF.out, (((HO1.out.setCell (p := ⟨w.heap.size + 1, 0, none⟩) (.inr (Nat.le_succ _)) _).setCell (p := ⟨w.heap.size + 1, 1, none⟩) (.inr (Nat.le_succ _)) _).setCell (p := ⟨w.heap.size + 1, 2, none⟩) (.inr (Nat.le_succ _)) _).drew⟩
  by_cases hc63 : c = 63
  · subst hc63
    have HF := Lib.hid (take_name HL.out (.inr rfl))
    rw [HN.out, show kindOf 63 = 4 from rfl] at HF
    obtain rfl : cn = 63 := HCN.out.symm
    clear hp
    go_enter Tryd.func42, Tryd.ntmps42
    go_wp2_with fail
    refine (HEND.out _ w.heap.size (HB0.out.cell 0)).mono ?_
    rintro e w1 ⟨rfl, ho⟩
    have HB1 := Lib.hid (ho.blk HB0.out (fun x => x))
    have HR1 := Lib.hid (ho.blk HR0.out (fun x => x))
    have HO1 := Lib.hid (HOA.out.trans ho)
    have b0 : w1.cell? ⟨w.heap.size, 0, none⟩ = some (.string s) := HB1.out.cell 0
    have r0 : w1.cell? ⟨w.heap.size + 1, 0, none⟩ = some (.int .i64 0) := HR1.out.cell 0
    have r1 : w1.cell? ⟨w.heap.size + 1, 1, none⟩ = some (.int .i64 0) := HR1.out.cell 1
    have r2 : w1.cell? ⟨w.heap.size + 1, 2, none⟩ = some (.string ⟨#[]⟩) := HR1.out.cell 2
    have f0 : w1.frozen? ⟨w.heap.size + 1, 0, none⟩ = false := HR1.out.frozen 0
    have f1 : w1.frozen? ⟨w.heap.size + 1, 1, none⟩ = false := HR1.out.frozen 1
    have f2 : w1.frozen? ⟨w.heap.size + 1, 2, none⟩ = false := HR1.out.frozen 2
    clear ho
    go_wp2_with fail
    refine (Tryd.strings_HasPrefix _ _ _).mono ?_
    rw [HPRE.out]
    rintro e w' ⟨rfl, rfl⟩
    go_wp2_with fail
    go_region
    go_wp2_with fail
    exact bodyPost_ret (v := .tuple #[.agg #[.int .i64 4, .int .i64 0, .string (s.extract 1 (1 + n))], .string (s.extract (1 + n) s.size), .bool true]) (by simp [results, Tryd.results42, go_sem, r0, r1, r2]) rfl ⟨_, _, _, _, _, rfl, HF.out, (((HO1.out.setCell (p := ⟨w.heap.size + 1, 0, none⟩) (.inr (Nat.le_succ _)) _).setCell (p := ⟨w.heap.size + 1, 1, none⟩) (.inr (Nat.le_succ _)) _).setCell (p := ⟨w.heap.size + 1, 2, none⟩) (.inr (Nat.le_succ _)) _).drew⟩
  have hz46 : ((cn : Int) == 46) = false := by
    rw [← HCN.out]; simp; intro e; exact hc46 (UInt8.toNat_inj.1 (by have : (46 : UInt8).toNat = 46 := rfl; omega))
  have hz63 : ((cn : Int) == 63) = false := by
    rw [← HCN.out]; simp; intro e; exact hc63 (UInt8.toNat_inj.1 (by have : (63 : UInt8).toNat = 63 := rfl; omega))
  have hrs : s.extract 1 s.size = bs r := by
    have hr : s.size = r.length + 1 := by rw [← size_len, HL.out]; rfl
    rw [extract_bs HL.out]; simp [hr]
  have hrz : (bs r).size ≤ 1000 := by rw [← hrs, ByteArray.size_extract]; omega
  obtain ⟨I, HI⟩ : ∃ I, Hid (bs (Lib.cut r [93]).1 = I) := ⟨_, Lib.hid rfl⟩
  obtain ⟨R, HRR⟩ : ∃ R, Hid (bs (Lib.cut r [93]).2.1 = R) := ⟨_, Lib.hid rfl⟩
  obtain ⟨fd, HFD⟩ : ∃ fd, Hid ((Lib.cut r [93]).2.2 = fd) := ⟨_, Lib.hid rfl⟩
  have hIz : I.size ≤ 1000 := by
    rw [← HI.out, bs_size]
    have := (cut_le r [93]).1
    rw [bs_size] at hrz
    omega
  have HCUT : Hid (∀ w, Std w → Calls Tryd.prog 59 #[.string (s.extract 1 s.size), .string ⟨#[93]⟩] w fun e w' => e = .returned (.tuple #[.string I, .string R, .bool fd]) ∧ Only Nobody w w') := Lib.hid fun w h => by
    rw [hrs, ← HI.out, ← HRR.out, ← HFD.out]
    have := cut_any (bs r) 93 (by omega) w h
    rw [bs_data] at this
    exact this
  obtain ⟨num, HNU⟩ : ∃ num, Hid (decNum I = num) := ⟨_, Lib.hid rfl⟩
  have HAT : Hid (∀ w, Std w → Calls Tryd.prog 60 #[.string I] w fun e w' => ∃ ev, e = .returned (.tuple #[.int .i64 num, ev]) ∧ (numOk I = true → ev = .nilIface) ∧ (numOk I = false → ∃ t p, ev = .iface t p) ∧ Only Nobody w w') := Lib.hid fun w h => by
    rw [← HNU.out]
    exact atoi_any I (by omega) w h
  have hnb := decNum_bd I
  rw [HNU.out] at hnb
  obtain ⟨IT, HIT⟩ : ∃ IT, Hid (bs (Lib.itoa num) = IT) := ⟨_, Lib.hid rfl⟩
  have HITO : Hid (∀ w, Std w → Calls Tryd.prog 61 #[.int .i64 num] w fun e w' => e = .returned (.string IT) ∧ Only Nobody w w') := Lib.hid fun w h => itoa_any num hnb.1 hnb.2 IT (by rw [← HIT.out, bs_data]) w h.tab
  have HEQ : Hid ((IT.toList == I.toList) = decide (Lib.itoa num = I.data.toList)) := Lib.hid (by
    rw [bytes_eq2]
    apply decide_eq_decide.2
    rw [← HIT.out]
    constructor
    · intro e; rw [← e, bs_data]
    · intro e; exact str_ext (by rw [bs_data, e]))
  have HFI : Hid (c = 91 → ∀ is, is = (fd && numOk I && decide (Lib.itoa num = I.data.toList)) → TakeFact s ⟨2, num, ⟨#[]⟩⟩ R is) := Lib.hid fun hc is his => by
    subst hc
    have := take_index HL.out (fun x e => hp ⟨x, by rw [HL.out, e]⟩) is (by rw [his, ← HFD.out, ← HNU.out, ← HI.out, bs_data])
    rw [HI.out, HRR.out, HNU.out] at this
    exact this
  have HFO : Hid (c ≠ 91 → TakeFact s ⟨2, num, ⟨#[]⟩⟩ R false) := Lib.hid fun hc => take_other HL.out hc46 hc63 hc _ _
  clear hp hc46 hc63 hrs hrz hIz hnb
  by_cases hc91 : c = 91
  case neg =>
    have hz91 : ((cn : Int) == 91) = false := by
      rw [← HCN.out]; simp; intro e; exact hc91 (UInt8.toNat_inj.1 (by have : (91 : UInt8).toNat = 91 := rfl; omega))
    have HF := Lib.hid (HFO.out hc91)
    clear hc91
    go_enter Tryd.func42, Tryd.ntmps42
    go_wp2_with fail
    refine (HEND.out _ w.heap.size (HB0.out.cell 0)).mono ?_
    rintro e w1 ⟨rfl, ho⟩
    have HB1 := Lib.hid (ho.blk HB0.out (fun x => x))
    have HR1 := Lib.hid (ho.blk HR0.out (fun x => x))
    have HO1 := Lib.hid (HOA.out.trans ho)
    have b0 : w1.cell? ⟨w.heap.size, 0, none⟩ = some (.string s) := HB1.out.cell 0
    have r0 : w1.cell? ⟨w.heap.size + 1, 0, none⟩ = some (.int .i64 0) := HR1.out.cell 0
    have r1 : w1.cell? ⟨w.heap.size + 1, 1, none⟩ = some (.int .i64 0) := HR1.out.cell 1
    have r2 : w1.cell? ⟨w.heap.size + 1, 2, none⟩ = some (.string ⟨#[]⟩) := HR1.out.cell 2
    have f0 : w1.frozen? ⟨w.heap.size + 1, 0, none⟩ = false := HR1.out.frozen 0
    have f1 : w1.frozen? ⟨w.heap.size + 1, 1, none⟩ = false := HR1.out.frozen 1
    have f2 : w1.frozen? ⟨w.heap.size + 1, 2, none⟩ = false := HR1.out.frozen 2
    clear ho
    go_wp2_with fail
    refine (Tryd.strings_HasPrefix _ _ _).mono ?_
    rw [HPRE.out]
    rintro e w' ⟨rfl, rfl⟩
    go_wp2_with fail
    refine (HCUT.out _ (HS.out.same HO1.out)).mono ?_
    rintro e w2 ⟨rfl, ho⟩
    have HB2 := Lib.hid (ho.blk HB1.out (fun x => x))
    have HR2 := Lib.hid (ho.blk HR1.out (fun x => x))
    have HO2 := Lib.hid (HO1.out.trans ho)
    clear ho b0 r0 r1 r2 f0 f1 f2
    go_wp2_with fail
    refine (HAT.out _ (HS.out.same HO2.out)).mono ?_
    rintro e w3 ⟨ev, rfl, hev1, hev2, ho⟩
    have HEV1 := Lib.hid hev1
    have HEV2 := Lib.hid hev2
    have HB3 := Lib.hid (ho.blk HB2.out (fun x => x))
    have HR3 := Lib.hid (ho.blk HR2.out (fun x => x))
    have HO3 := Lib.hid (HO2.out.trans ho)
    have b0 : w3.cell? ⟨w.heap.size, 0, none⟩ = some (.string s) := HB3.out.cell 0
    have r0 : w3.cell? ⟨w.heap.size + 1, 0, none⟩ = some (.int .i64 0) := HR3.out.cell 0
    have r1 : w3.cell? ⟨w.heap.size + 1, 1, none⟩ = some (.int .i64 0) := HR3.out.cell 1
    have r2 : w3.cell? ⟨w.heap.size + 1, 2, none⟩ = some (.string ⟨#[]⟩) := HR3.out.cell 2
    have f0 : w3.frozen? ⟨w.heap.size + 1, 0, none⟩ = false := HR3.out.frozen 0
    have f1 : w3.frozen? ⟨w.heap.size + 1, 1, none⟩ = false := HR3.out.frozen 1
    have f2 : w3.frozen? ⟨w.heap.size + 1, 2, none⟩ = false := HR3.out.frozen 2
    clear ho hev1 hev2
    go_wp2_with fail
    exact bodyPost_ret (v := .tuple #[.agg #[.int .i64 2, .int .i64 num, .string ⟨#[]⟩], .string R, .bool false]) (by simp [results, Tryd.results42, go_sem, r0, r1, r2]) rfl ⟨_, _, _, _, _, rfl, HF.out, (((HO3.out.setCell (p := ⟨w.heap.size + 1, 0, none⟩) (.inr (Nat.le_succ _)) _).setCell (p := ⟨w.heap.size + 1, 1, none⟩) (.inr (Nat.le_succ _)) _).setCell (p := ⟨w.heap.size + 1, 2, none⟩) (.inr (Nat.le_succ _)) _)⟩
  have hz91 : ((cn : Int) == 91) = true := by
    rw [← HCN.out, hc91]; rfl
  have HFC := Lib.hid (HFI.out hc91)
  clear hc91
  cases fd with
  | false =>
    have HF : Hid (TakeFact s ⟨2, num, ⟨#[]⟩⟩ R false) := Lib.hid (HFC.out false (by simp))
    go_enter Tryd.func42, Tryd.ntmps42
    go_wp2_with fail
    refine (HEND.out _ w.heap.size (HB0.out.cell 0)).mono ?_
    rintro e w1 ⟨rfl, ho⟩
    have HB1 := Lib.hid (ho.blk HB0.out (fun x => x))
    have HR1 := Lib.hid (ho.blk HR0.out (fun x => x))
    have HO1 := Lib.hid (HOA.out.trans ho)
    have b0 : w1.cell? ⟨w.heap.size, 0, none⟩ = some (.string s) := HB1.out.cell 0
    have r0 : w1.cell? ⟨w.heap.size + 1, 0, none⟩ = some (.int .i64 0) := HR1.out.cell 0
    have r1 : w1.cell? ⟨w.heap.size + 1, 1, none⟩ = some (.int .i64 0) := HR1.out.cell 1
    have r2 : w1.cell? ⟨w.heap.size + 1, 2, none⟩ = some (.string ⟨#[]⟩) := HR1.out.cell 2
    have f0 : w1.frozen? ⟨w.heap.size + 1, 0, none⟩ = false := HR1.out.frozen 0
    have f1 : w1.frozen? ⟨w.heap.size + 1, 1, none⟩ = false := HR1.out.frozen 1
    have f2 : w1.frozen? ⟨w.heap.size + 1, 2, none⟩ = false := HR1.out.frozen 2
    clear ho
    go_wp2_with fail
    refine (Tryd.strings_HasPrefix _ _ _).mono ?_
    rw [HPRE.out]
    rintro e w' ⟨rfl, rfl⟩
    go_wp2_with fail
    refine (HCUT.out _ (HS.out.same HO1.out)).mono ?_
    rintro e w2 ⟨rfl, ho⟩
    have HB2 := Lib.hid (ho.blk HB1.out (fun x => x))
    have HR2 := Lib.hid (ho.blk HR1.out (fun x => x))
    have HO2 := Lib.hid (HO1.out.trans ho)
    clear ho b0 r0 r1 r2 f0 f1 f2
    go_wp2_with fail
    refine (HAT.out _ (HS.out.same HO2.out)).mono ?_
    rintro e w3 ⟨ev, rfl, hev1, hev2, ho⟩
    have HEV1 := Lib.hid hev1
    have HEV2 := Lib.hid hev2
    have HB3 := Lib.hid (ho.blk HB2.out (fun x => x))
    have HR3 := Lib.hid (ho.blk HR2.out (fun x => x))
    have HO3 := Lib.hid (HO2.out.trans ho)
    have b0 : w3.cell? ⟨w.heap.size, 0, none⟩ = some (.string s) := HB3.out.cell 0
    have r0 : w3.cell? ⟨w.heap.size + 1, 0, none⟩ = some (.int .i64 0) := HR3.out.cell 0
    have r1 : w3.cell? ⟨w.heap.size + 1, 1, none⟩ = some (.int .i64 0) := HR3.out.cell 1
    have r2 : w3.cell? ⟨w.heap.size + 1, 2, none⟩ = some (.string ⟨#[]⟩) := HR3.out.cell 2
    have f0 : w3.frozen? ⟨w.heap.size + 1, 0, none⟩ = false := HR3.out.frozen 0
    have f1 : w3.frozen? ⟨w.heap.size + 1, 1, none⟩ = false := HR3.out.frozen 1
    have f2 : w3.frozen? ⟨w.heap.size + 1, 2, none⟩ = false := HR3.out.frozen 2
    clear ho hev1 hev2
    go_wp2_with fail
    exact bodyPost_ret (v := .tuple #[.agg #[.int .i64 2, .int .i64 num, .string ⟨#[]⟩], .string R, .bool false]) (by simp [results, Tryd.results42, go_sem, r0, r1, r2]) rfl ⟨_, _, _, _, _, rfl, HF.out, (((HO3.out.setCell (p := ⟨w.heap.size + 1, 0, none⟩) (.inr (Nat.le_succ _)) _).setCell (p := ⟨w.heap.size + 1, 1, none⟩) (.inr (Nat.le_succ _)) _).setCell (p := ⟨w.heap.size + 1, 2, none⟩) (.inr (Nat.le_succ _)) _)⟩
  | true =>
    cases hno : numOk I with
    | false =>
      have HF : Hid (TakeFact s ⟨2, num, ⟨#[]⟩⟩ R false) := Lib.hid (HFC.out false (by rw [hno]; simp))
      have HNO := Lib.hid hno
      clear hno
      go_enter Tryd.func42, Tryd.ntmps42
      go_wp2_with fail
      refine (HEND.out _ w.heap.size (HB0.out.cell 0)).mono ?_
      rintro e w1 ⟨rfl, ho⟩
      have HB1 := Lib.hid (ho.blk HB0.out (fun x => x))
      have HR1 := Lib.hid (ho.blk HR0.out (fun x => x))
      have HO1 := Lib.hid (HOA.out.trans ho)
      have b0 : w1.cell? ⟨w.heap.size, 0, none⟩ = some (.string s) := HB1.out.cell 0
      have r0 : w1.cell? ⟨w.heap.size + 1, 0, none⟩ = some (.int .i64 0) := HR1.out.cell 0
      have r1 : w1.cell? ⟨w.heap.size + 1, 1, none⟩ = some (.int .i64 0) := HR1.out.cell 1
      have r2 : w1.cell? ⟨w.heap.size + 1, 2, none⟩ = some (.string ⟨#[]⟩) := HR1.out.cell 2
      have f0 : w1.frozen? ⟨w.heap.size + 1, 0, none⟩ = false := HR1.out.frozen 0
      have f1 : w1.frozen? ⟨w.heap.size + 1, 1, none⟩ = false := HR1.out.frozen 1
      have f2 : w1.frozen? ⟨w.heap.size + 1, 2, none⟩ = false := HR1.out.frozen 2
      clear ho
      go_wp2_with fail
      refine (Tryd.strings_HasPrefix _ _ _).mono ?_
      rw [HPRE.out]
      rintro e w' ⟨rfl, rfl⟩
      go_wp2_with fail
      refine (HCUT.out _ (HS.out.same HO1.out)).mono ?_
      rintro e w2 ⟨rfl, ho⟩
      have HB2 := Lib.hid (ho.blk HB1.out (fun x => x))
      have HR2 := Lib.hid (ho.blk HR1.out (fun x => x))
      have HO2 := Lib.hid (HO1.out.trans ho)
      clear ho b0 r0 r1 r2 f0 f1 f2
      go_wp2_with fail
      refine (HAT.out _ (HS.out.same HO2.out)).mono ?_
      rintro e w3 ⟨ev, rfl, hev1, hev2, ho⟩
      have HEV1 := Lib.hid hev1
      have HEV2 := Lib.hid hev2
      have HB3 := Lib.hid (ho.blk HB2.out (fun x => x))
      have HR3 := Lib.hid (ho.blk HR2.out (fun x => x))
      have HO3 := Lib.hid (HO2.out.trans ho)
      have b0 : w3.cell? ⟨w.heap.size, 0, none⟩ = some (.string s) := HB3.out.cell 0
      have r0 : w3.cell? ⟨w.heap.size + 1, 0, none⟩ = some (.int .i64 0) := HR3.out.cell 0
      have r1 : w3.cell? ⟨w.heap.size + 1, 1, none⟩ = some (.int .i64 0) := HR3.out.cell 1
      have r2 : w3.cell? ⟨w.heap.size + 1, 2, none⟩ = some (.string ⟨#[]⟩) := HR3.out.cell 2
      have f0 : w3.frozen? ⟨w.heap.size + 1, 0, none⟩ = false := HR3.out.frozen 0
      have f1 : w3.frozen? ⟨w.heap.size + 1, 1, none⟩ = false := HR3.out.frozen 1
      have f2 : w3.frozen? ⟨w.heap.size + 1, 2, none⟩ = false := HR3.out.frozen 2
      clear ho hev1 hev2
      obtain ⟨ti, pi, rfl⟩ := HEV2.out HNO.out
      go_wp2_with fail
      exact bodyPost_ret (v := .tuple #[.agg #[.int .i64 2, .int .i64 num, .string ⟨#[]⟩], .string R, .bool false]) (by simp [results, Tryd.results42, go_sem, r0, r1, r2]) rfl ⟨_, _, _, _, _, rfl, HF.out, (((HO3.out.setCell (p := ⟨w.heap.size + 1, 0, none⟩) (.inr (Nat.le_succ _)) _).setCell (p := ⟨w.heap.size + 1, 1, none⟩) (.inr (Nat.le_succ _)) _).setCell (p := ⟨w.heap.size + 1, 2, none⟩) (.inr (Nat.le_succ _)) _)⟩
    | true =>
      obtain ⟨be, hbe⟩ : ∃ be, (IT.toList == I.toList) = be := ⟨_, rfl⟩
      have HF : Hid (TakeFact s ⟨2, num, ⟨#[]⟩⟩ R be) := Lib.hid (HFC.out be (by rw [hno, ← HEQ.out, hbe]; simp))
      have HNO := Lib.hid hno
      clear hno
      go_enter Tryd.func42, Tryd.ntmps42
      go_wp2_with fail
      refine (HEND.out _ w.heap.size (HB0.out.cell 0)).mono ?_
      rintro e w1 ⟨rfl, ho⟩
      have HB1 := Lib.hid (ho.blk HB0.out (fun x => x))
      have HR1 := Lib.hid (ho.blk HR0.out (fun x => x))
      have HO1 := Lib.hid (HOA.out.trans ho)
      have b0 : w1.cell? ⟨w.heap.size, 0, none⟩ = some (.string s) := HB1.out.cell 0
      have r0 : w1.cell? ⟨w.heap.size + 1, 0, none⟩ = some (.int .i64 0) := HR1.out.cell 0
      have r1 : w1.cell? ⟨w.heap.size + 1, 1, none⟩ = some (.int .i64 0) := HR1.out.cell 1
      have r2 : w1.cell? ⟨w.heap.size + 1, 2, none⟩ = some (.string ⟨#[]⟩) := HR1.out.cell 2
      have f0 : w1.frozen? ⟨w.heap.size + 1, 0, none⟩ = false := HR1.out.frozen 0
      have f1 : w1.frozen? ⟨w.heap.size + 1, 1, none⟩ = false := HR1.out.frozen 1
      have f2 : w1.frozen? ⟨w.heap.size + 1, 2, none⟩ = false := HR1.out.frozen 2
      clear ho
      go_wp2_with fail
      refine (Tryd.strings_HasPrefix _ _ _).mono ?_
      rw [HPRE.out]
      rintro e w' ⟨rfl, rfl⟩
      go_wp2_with fail
      refine (HCUT.out _ (HS.out.same HO1.out)).mono ?_
      rintro e w2 ⟨rfl, ho⟩
      have HB2 := Lib.hid (ho.blk HB1.out (fun x => x))
      have HR2 := Lib.hid (ho.blk HR1.out (fun x => x))
      have HO2 := Lib.hid (HO1.out.trans ho)
      clear ho b0 r0 r1 r2 f0 f1 f2
      go_wp2_with fail
      refine (HAT.out _ (HS.out.same HO2.out)).mono ?_
      rintro e w3 ⟨ev, rfl, hev1, hev2, ho⟩
      have HEV1 := Lib.hid hev1
      have HEV2 := Lib.hid hev2
      have HB3 := Lib.hid (ho.blk HB2.out (fun x => x))
      have HR3 := Lib.hid (ho.blk HR2.out (fun x => x))
      have HO3 := Lib.hid (HO2.out.trans ho)
      have b0 : w3.cell? ⟨w.heap.size, 0, none⟩ = some (.string s) := HB3.out.cell 0
      have r0 : w3.cell? ⟨w.heap.size + 1, 0, none⟩ = some (.int .i64 0) := HR3.out.cell 0
      have r1 : w3.cell? ⟨w.heap.size + 1, 1, none⟩ = some (.int .i64 0) := HR3.out.cell 1
      have r2 : w3.cell? ⟨w.heap.size + 1, 2, none⟩ = some (.string ⟨#[]⟩) := HR3.out.cell 2
      have f0 : w3.frozen? ⟨w.heap.size + 1, 0, none⟩ = false := HR3.out.frozen 0
      have f1 : w3.frozen? ⟨w.heap.size + 1, 1, none⟩ = false := HR3.out.frozen 1
      have f2 : w3.frozen? ⟨w.heap.size + 1, 2, none⟩ = false := HR3.out.frozen 2
      clear ho hev1 hev2
      obtain rfl := HEV1.out HNO.out
      go_wp2_with fail
      refine (HITO.out _ (HS.out.same HO3.out)).mono ?_
      rintro e w4 ⟨rfl, ho⟩
      have HR4 := Lib.hid (ho.blk HR3.out (fun x => x))
      have HO4 := Lib.hid (HO3.out.trans ho)
      clear ho b0 r0 r1 r2 f0 f1 f2
      have r0 : w4.cell? ⟨w.heap.size + 1, 0, none⟩ = some (.int .i64 0) := HR4.out.cell 0
      have r1 : w4.cell? ⟨w.heap.size + 1, 1, none⟩ = some (.int .i64 0) := HR4.out.cell 1
      have r2 : w4.cell? ⟨w.heap.size + 1, 2, none⟩ = some (.string ⟨#[]⟩) := HR4.out.cell 2
      have f0 : w4.frozen? ⟨w.heap.size + 1, 0, none⟩ = false := HR4.out.frozen 0
      have f1 : w4.frozen? ⟨w.heap.size + 1, 1, none⟩ = false := HR4.out.frozen 1
      have f2 : w4.frozen? ⟨w.heap.size + 1, 2, none⟩ = false := HR4.out.frozen 2
      go_wp2_with fail
      exact bodyPost_ret (v := .tuple #[.agg #[.int .i64 2, .int .i64 num, .string ⟨#[]⟩], .string R, .bool be]) (by simp [results, Tryd.results42, go_sem, r0, r1, r2]) rfl ⟨_, _, _, _, _, rfl, HF.out, (((HO4.out.setCell (p := ⟨w.heap.size + 1, 0, none⟩) (.inr (Nat.le_succ _)) _).setCell (p := ⟨w.heap.size + 1, 1, none⟩) (.inr (Nat.le_succ _)) _).setCell (p := ⟨w.heap.size + 1, 2, none⟩) (.inr (Nat.le_succ _)) _)⟩
end Go.Proofs.YtdccckoelnnnoaaDoor
