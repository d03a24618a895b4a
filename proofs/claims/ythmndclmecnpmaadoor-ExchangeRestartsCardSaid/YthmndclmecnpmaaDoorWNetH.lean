/- The walks of up, down, heap.Push and heap.Pop (the walk of down is printed by wip/gen_down.py). -/
import Derived.Test.YthmndclmecnpmaaDoorWNetP
namespace Go.Proofs.YthmndclmecnpmaaDoor.Nw
open Go.RowKit

set_option maxRecDepth 100000 in
theorem m_less (n : Nat) (a : Addr) (w : World) : (method (n + 1) 119 (.pointer (some a)) "Less").run Tryd.prog w = (loadVar 121 a >>= fun v => (pure (115, v) : Sem (FuncId × Value))).run Tryd.prog w := by kernel_rfl
set_option maxRecDepth 100000 in
theorem m_swap (n : Nat) (a : Addr) (w : World) : (method (n + 1) 119 (.pointer (some a)) "Swap").run Tryd.prog w = (loadVar 121 a >>= fun v => (pure (118, v) : Sem (FuncId × Value))).run Tryd.prog w := by kernel_rfl
set_option maxRecDepth 100000 in
theorem m_len (n : Nat) (a : Addr) (w : World) : (method (n + 1) 119 (.pointer (some a)) "Len").run Tryd.prog w = (loadVar 121 a >>= fun v => (pure (66, v) : Sem (FuncId × Value))).run Tryd.prog w := by kernel_rfl
set_option maxRecDepth 100000 in
theorem m_push (n : Nat) (a : Addr) (w : World) : (method (n + 1) 119 (.pointer (some a)) "Push").run Tryd.prog w = .ok (117, .pointer (some a)) w := by kernel_rfl
set_option maxRecDepth 100000 in
theorem m_pop (n : Nat) (a : Addr) (w : World) : (method (n + 1) 119 (.pointer (some a)) "Pop").run Tryd.prog w = .ok (116, .pointer (some a)) w := by kernel_rfl
set_option maxRecDepth 100000 in
theorem method_less (k : Nat) (v : Value) (n : Nat) (hn : n ≠ 0) (w : World) (h : w.cell? ⟨k, 0, none⟩ = some v) : (method n 119 (.pointer (some ⟨k, 0, none⟩)) "Less").run Tryd.prog w = .ok (115, v) w := by
  obtain ⟨m, rfl⟩ := Nat.exists_eq_succ_of_ne_zero hn
  rw [m_less]; go_simp
set_option maxRecDepth 100000 in
theorem method_swap (k : Nat) (v : Value) (n : Nat) (hn : n ≠ 0) (w : World) (h : w.cell? ⟨k, 0, none⟩ = some v) : (method n 119 (.pointer (some ⟨k, 0, none⟩)) "Swap").run Tryd.prog w = .ok (118, v) w := by
  obtain ⟨m, rfl⟩ := Nat.exists_eq_succ_of_ne_zero hn
  rw [m_swap]; go_simp
set_option maxRecDepth 100000 in
theorem method_len (k : Nat) (v : Value) (n : Nat) (hn : n ≠ 0) (w : World) (h : w.cell? ⟨k, 0, none⟩ = some v) : (method n 119 (.pointer (some ⟨k, 0, none⟩)) "Len").run Tryd.prog w = .ok (66, v) w := by
  obtain ⟨m, rfl⟩ := Nat.exists_eq_succ_of_ne_zero hn
  rw [m_len]; go_simp
set_option maxRecDepth 100000 in
theorem method_push (k : Nat) (n : Nat) (hn : n ≠ 0) (w : World) : (method n 119 (.pointer (some ⟨k, 0, none⟩)) "Push").run Tryd.prog w = .ok (117, .pointer (some ⟨k, 0, none⟩)) w := by
  obtain ⟨m, rfl⟩ := Nat.exists_eq_succ_of_ne_zero hn
  rw [m_push]
set_option maxRecDepth 100000 in
theorem method_pop (k : Nat) (n : Nat) (hn : n ≠ 0) (w : World) : (method n 119 (.pointer (some ⟨k, 0, none⟩)) "Pop").run Tryd.prog w = .ok (116, .pointer (some ⟨k, 0, none⟩)) w := by
  obtain ⟨m, rfl⟩ := Nat.exists_eq_succ_of_ne_zero hn
  rw [m_pop]

/-- A queue whose slice lies in box k: the header's own block, the row, the elements. -/
structure QRow (w : World) (k g n cap : Nat) (q : List Cp) : Prop where
  box : Blk w k 121 #[.slice (some ⟨g, 0, none⟩) n cap]
  row : w.ownsRow 0 124 5 (.slice (some ⟨g, 0, none⟩) n cap) n (cellsOf q)
  len : q.length = n

set_option maxRecDepth 100000 in
theorem QRow.ne {w : World} {k g n cap : Nat} {q : List Cp} (h : QRow w k g n cap q) : g ≠ k := by
  rcases h.row.2 with ⟨h1, _⟩ | ⟨g', cap', cur, hv, hb, hh, hnc, hm, hs, ht⟩
  · cases h1
  · simp only [Value.slice.injEq, Option.some.injEq, Addr.mk.injEq, and_true] at hv
    obtain ⟨rfl, _, rfl⟩ := hv
    exact Blk.ne_ (t := 124) hh h.box (by decide)
set_option maxRecDepth 100000 in
theorem QRow.keep {w w' : World} {k g n cap : Nat} {q : List Cp} (h : QRow w k g n cap q) {F : Nat → Prop} (ho : Only F w w') (hk : ¬ F k) (hg : ¬ F g) : QRow w' k g n cap q :=
  ⟨ho.blk h.box hk, ho.row h.row (by rintro g' hg'; simp only [Value.ownBlock, Option.some.injEq] at hg'; subst hg'; exact hg), h.len⟩

set_option maxRecDepth 100000 in
theorem less_b (k g n cap : Nat) (q : List Cp) (i j : Int) (b : Bool) (w : World) (h : QRow w k g n cap q) (i0 : 0 ≤ i) (hi : i < n) (j0 : 0 ≤ j) (hj : j < n) (hb : Cp.lt (gq q i.toNat) (gq q j.toNat) = b) :
    Calls Tryd.prog 115 #[.slice (some ⟨g, 0, none⟩) n cap, .int .i64 i, .int .i64 j] w fun e w' => e = .returned (.bool b) ∧ QRow w' k g n cap q ∧ Only Nobody w w' := by
  refine (less_q g n cap q i j w h.row h.len i0 hi j0 hj).mono ?_
  rintro e w' ⟨rfl, hbl⟩
  have ho := Only.of_below hbl Nobody
  exact ⟨ret_bool hb, h.keep ho (fun x => x) (fun x => x), ho⟩

set_option maxRecDepth 100000 in
theorem swap_b (k g n cap : Nat) (q : List Cp) (i j : Int) (w : World) (h : QRow w k g n cap q) (i0 : 0 ≤ i) (hi : i < n) (j0 : 0 ≤ j) (hj : j < n) :
    Calls Tryd.prog 118 #[.slice (some ⟨g, 0, none⟩) n cap, .int .i64 i, .int .i64 j] w fun e w' => e = .returned (.tuple #[]) ∧ QRow w' k g n cap (swapQ q i.toNat j.toNat) ∧ Only (· = g) w w' := by
  refine (swap_q g n cap q i j w h.row h.len i0 hi j0 hj).mono ?_
  rintro e w' ⟨rfl, hr, ho⟩
  exact ⟨rfl, ⟨ho.blk h.box (fun e => h.ne e.symm), hr, by rw [swapQ_len]; exact h.len⟩, ho⟩

set_option maxRecDepth 100000 in
theorem _root_.Go.Proofs.YthmndclmecnpmaaDoor.Only.nobody {w w' : World} (h : Only Nobody w w') (F : Nat → Prop) : Only F w w' := h.mono (fun _ x => x.elim)

set_option maxRecDepth 100000 in
set_option maxHeartbeats 1000000 in
theorem up_q (k g n cap : Nat) (j : Int) (q : List Cp) (w : World) (j0 : 0 ≤ j) (hj : j < n) (_hn : n ≤ 1000000) (h : QRow w k g n cap q) :
    Calls Tryd.prog 75 #[.iface 119 (.pointer (some ⟨k, 0, none⟩)), .int .i64 j] w fun e w' => e = .returned (.tuple #[]) ∧ QRow w' k g n cap (upL (j.toNat + 1) q j.toNat) ∧ Only (· = g) w w' := by
  obtain ⟨j, rfl⟩ := Int.eq_ofNat_of_zero_le j0
  rw [Int.toNat_natCast]
  have HQ := Lib.hid h
  have hm1 := method_less k (.slice (some ⟨g, 0, none⟩) n cap)
  have hm2 := method_swap k (.slice (some ⟨g, 0, none⟩) n cap)
  clear h
  go_enter Tryd.func75, Tryd.ntmps75
  go_wp2
  go_loopw [1] (fun s wr => ∃ (i : Nat) (q' : List Cp), s = .int .i64 (i : Int) ∧ i < n ∧ QRow wr k g n cap q' ∧ Only (· = g) w wr ∧ Hid (upL (i + 1) q' i = upL (j + 1) q j)) (fun s _ => (intOf s).toNat)
  case atStart => exact ⟨j, q, rfl, by omega, HQ.out, Only.refl _ _, Lib.hid rfl⟩
  case round =>
    obtain ⟨i, q', rfl, hi, hq', ho, HU⟩ := hrel
    have HQ' := Lib.hid hq'
    have HO := Lib.hid ho
    have hb : wr.cell? ⟨k, 0, none⟩ = some (.slice (some ⟨g, 0, none⟩) n cap) := hq'.box.cell 0
    clear hq' ho
    by_cases hi0 : i = 0
    · subst hi0
      go_wp2
      go_end0
      refine ⟨rfl, ?_, HO.out⟩
      rw [← HU.out]
      exact HQ'.out
    · have hne : (((i : Int) - 1) / 2 == (i : Int)) = false := by rw [beq_eq_false_iff_ne]; omega
      by_cases hl : Cp.lt (gq q' i) (gq q' ((i - 1) / 2)) = true
      · have HL : Hid (Cp.lt (gq q' (i : Int).toNat) (gq q' (((i : Int) - 1) / 2).toNat) = true) := by
          rw [Int.toNat_natCast, show (((i : Int) - 1) / 2).toNat = (i - 1) / 2 from by omega]; exact hl
        have HL2 := Lib.hid hl
        clear hl
        go_wp2_with fail
        refine (less_b k g n cap q' _ _ true wr HQ'.out (by omega) (by omega) (by omega) (by omega) HL.out).mono ?_
        rintro e w1 ⟨rfl, hq1, ho1⟩
        have hb1 : w1.cell? ⟨k, 0, none⟩ = some (.slice (some ⟨g, 0, none⟩) n cap) := hq1.box.cell 0
        have HQ1 := Lib.hid hq1
        have HO1 := Lib.hid ho1
        clear hq1 ho1
        go_wp2_with fail
        refine (swap_b k g n cap q' _ _ w1 HQ1.out (by omega) (by omega) (by omega) (by omega)).mono ?_
        rintro e w2 ⟨rfl, hq2, ho2⟩
        rw [Int.toNat_natCast, show (((i : Int) - 1) / 2).toNat = (i - 1) / 2 from by omega] at hq2
        have HQ2 := Lib.hid hq2
        have HO2 := Lib.hid ho2
        clear hq2 ho2
        go_wp2_with fail
        go_roundw
        case rel =>
          refine ⟨(i - 1) / 2, swapQ q' ((i - 1) / 2) i, by go_num, by omega, HQ2.out, (HO.out.trans (HO1.out.nobody _)).trans HO2.out, ?_⟩
          refine Lib.hid (Eq.trans ?_ HU.out)
          rw [upL_fuel ((i - 1) / 2 + 1) i _ _ (by omega) (by omega)]
          conv => rhs; unfold upL
          rw [if_neg (by omega), if_pos HL2.out]
        case measure => simp [intOf]; omega
      · have HL0 : Cp.lt (gq q' (i : Int).toNat) (gq q' (((i : Int) - 1) / 2).toNat) = false := by
          rw [Int.toNat_natCast, show (((i : Int) - 1) / 2).toNat = (i - 1) / 2 from by omega]; simpa using hl
        have HL := Lib.hid HL0
        clear HL0
        have HL2 := Lib.hid hl
        clear hl
        go_wp2_with fail
        refine (less_b k g n cap q' _ _ false wr HQ'.out (by omega) (by omega) (by omega) (by omega) HL.out).mono ?_
        rintro e w1 ⟨rfl, hq1, ho1⟩
        have HQ1 := Lib.hid hq1
        have HO1 := Lib.hid ho1
        clear hq1 ho1
        go_wp2_with fail
        go_end0
        refine ⟨rfl, ?_, HO.out.trans (HO1.out.nobody _)⟩
        rw [← HU.out]
        unfold upL
        rw [if_neg (by omega), if_neg HL2.out]
        exact HQ1.out

/-- Some bool comes back. -/
def SomeBool (e : Ending) : Prop := ∃ b, e = .returned (.bool b)

set_option maxRecDepth 100000 in
set_option maxHeartbeats 4000000 in
theorem down_q (k g n cap m : Nat) (q : List Cp) (w : World) (hm : m ≤ n) (_hn : n ≤ 1000000) (h : QRow w k g n cap q) :
    Calls Tryd.prog 76 #[.iface 119 (.pointer (some ⟨k, 0, none⟩)), .int .i64 0, .int .i64 m] w fun e w' => SomeBool e ∧ QRow w' k g n cap (downL (m + 1) q 0 m) ∧ Only (· = g) w w' := by
  have HQ := Lib.hid h
  have hm1 := method_less k (.slice (some ⟨g, 0, none⟩) n cap)
  have hm2 := method_swap k (.slice (some ⟨g, 0, none⟩) n cap)
  clear h
  go_enter Tryd.func76, Tryd.ntmps76
  go_wp2
  go_loopw [7] (fun s wr => ∃ (i : Nat) (q' : List Cp), s = .int .i64 (i : Int) ∧ i ≤ n ∧ QRow wr k g n cap q' ∧ Only (· = g) w wr ∧ Hid (downL (m + 1) q' i m = downL (m + 1) q 0 m)) (fun s _ => n - (intOf s).toNat)
  case atStart => exact ⟨0, q, rfl, by omega, HQ.out, Only.refl _ _, Lib.hid rfl⟩
  case round =>
    obtain ⟨i, q', rfl, hi, hq', ho, HU⟩ := hrel
    have HQ' := Lib.hid hq'
    have HO := Lib.hid ho
    have hb : wr.cell? ⟨k, 0, none⟩ = some (.slice (some ⟨g, 0, none⟩) n cap) := hq'.box.cell 0
    clear hq' ho
    by_cases hd : m ≤ 2 * i + 1
    · go_wp2_with fail
      go_ret
      refine ⟨⟨_, rfl⟩, ?_, HO.out⟩
      rw [← HU.out, downL_succ, if_pos hd]
      exact HQ'.out
    · have d1 : decide ((m : Int) ≤ 2 * (i : Int) + 1) = false := decide_eq_false (by omega)
      have d2 : decide (2 * (i : Int) + 1 < 0) = false := decide_eq_false (by omega)
      by_cases h2 : 2 * i + 2 < m
      · by_cases hc : Cp.lt (gq q' (2 * i + 2)) (gq q' (2 * i + 1)) = true
        · have HJ : Hid (kid q' i m = 2 * i + 2) := by unfold kid; exact Lib.hid (if_pos ⟨h2, hc⟩)
          have HC0 : Cp.lt (gq q' (2 * (i : Int) + 1 + 1).toNat) (gq q' (2 * (i : Int) + 1).toNat) = true := by
            rw [show (2 * (i : Int) + 1 + 1).toNat = 2 * i + 2 from by omega, show (2 * (i : Int) + 1).toNat = 2 * i + 1 from by omega]; exact hc
          have HC := Lib.hid HC0
          clear HC0 hc
          go_wp2_with fail
          refine (less_b k g n cap q' _ _ true _ HQ'.out (by omega) (by omega) (by omega) (by omega) HC.out).mono ?_
          rintro e w1 ⟨rfl, hq1, ho1⟩
          have hb1 : w1.cell? ⟨k, 0, none⟩ = some (.slice (some ⟨g, 0, none⟩) n cap) := hq1.box.cell 0
          have HQ1 := Lib.hid hq1
          have HO1 := Lib.hid ho1
          clear hq1 ho1
          by_cases hl : Cp.lt (gq q' (2 * i + 2)) (gq q' i) = true
          · have HL0 : Cp.lt (gq q' (2 * (i : Int) + 1 + 1).toNat) (gq q' (i : Int).toNat) = true := by
              rw [Int.toNat_natCast, show (2 * (i : Int) + 1 + 1).toNat = 2 * i + 2 from by omega]; exact hl
            have HL := Lib.hid HL0
            have HL2 := Lib.hid hl
            clear HL0 hl
            go_wp2_with fail
            refine (less_b k g n cap q' _ _ true _ HQ1.out (by omega) (by omega) (by omega) (by omega) HL.out).mono ?_
            rintro e w2 ⟨rfl, hq2, ho2⟩
            have hb2 : w2.cell? ⟨k, 0, none⟩ = some (.slice (some ⟨g, 0, none⟩) n cap) := hq2.box.cell 0
            have HQ2 := Lib.hid hq2
            have HO2 := Lib.hid ho2
            clear hq2 ho2
            go_wp2_with fail
            refine (swap_b k g n cap q' _ _ w2 HQ2.out (by omega) (by omega) (by omega) (by omega)).mono ?_
            rintro e w3 ⟨rfl, hq3, ho3⟩
            rw [Int.toNat_natCast, show (2 * (i : Int) + 1 + 1).toNat = 2 * i + 2 from by omega] at hq3
            have HQ3 := Lib.hid hq3
            have HO3 := Lib.hid ho3
            clear hq3 ho3
            go_wp2_with fail
            go_roundw
            case rel =>
              refine ⟨2 * i + 2, swapQ q' i (2 * i + 2), by go_num, by omega, HQ3.out, (HO.out.trans (HO1.out.nobody _)).trans ((HO2.out.nobody _).trans HO3.out), ?_⟩
              refine Lib.hid (Eq.trans ?_ HU.out)
              rw [downL_fuel (m + 1) m _ _ _ (by omega) (by omega)]
              conv => rhs; rw [downL_succ, if_neg (by omega), HJ.out, if_pos HL2.out]
            case measure => simp [intOf]; omega
          · have HL0 : Cp.lt (gq q' (2 * (i : Int) + 1 + 1).toNat) (gq q' (i : Int).toNat) = false := by
              rw [Int.toNat_natCast, show (2 * (i : Int) + 1 + 1).toNat = 2 * i + 2 from by omega]; simpa using hl
            have HL := Lib.hid HL0
            have HL2 := Lib.hid hl
            clear HL0 hl
            go_wp2_with fail
            refine (less_b k g n cap q' _ _ false _ HQ1.out (by omega) (by omega) (by omega) (by omega) HL.out).mono ?_
            rintro e w2 ⟨rfl, hq2, ho2⟩
            have HQ2 := Lib.hid hq2
            have HO2 := Lib.hid ho2
            clear hq2 ho2
            go_wp2_with fail
            go_ret
            refine ⟨⟨_, rfl⟩, ?_, (HO.out.trans (HO1.out.nobody _)).trans (HO2.out.nobody _)⟩
            rw [← HU.out, downL_succ, if_neg (by omega), HJ.out, if_neg HL2.out]
            exact HQ2.out
        · have HJ : Hid (kid q' i m = 2 * i + 1) := by unfold kid; exact Lib.hid (if_neg (fun x => hc x.2))
          have HC0 : Cp.lt (gq q' (2 * (i : Int) + 1 + 1).toNat) (gq q' (2 * (i : Int) + 1).toNat) = false := by
            rw [show (2 * (i : Int) + 1 + 1).toNat = 2 * i + 2 from by omega, show (2 * (i : Int) + 1).toNat = 2 * i + 1 from by omega]; simpa using hc
          have HC := Lib.hid HC0
          clear HC0 hc
          go_wp2_with fail
          refine (less_b k g n cap q' _ _ false _ HQ'.out (by omega) (by omega) (by omega) (by omega) HC.out).mono ?_
          rintro e w1 ⟨rfl, hq1, ho1⟩
          have hb1 : w1.cell? ⟨k, 0, none⟩ = some (.slice (some ⟨g, 0, none⟩) n cap) := hq1.box.cell 0
          have HQ1 := Lib.hid hq1
          have HO1 := Lib.hid ho1
          clear hq1 ho1
          by_cases hl : Cp.lt (gq q' (2 * i + 1)) (gq q' i) = true
          · have HL0 : Cp.lt (gq q' (2 * (i : Int) + 1).toNat) (gq q' (i : Int).toNat) = true := by
              rw [Int.toNat_natCast, show (2 * (i : Int) + 1).toNat = 2 * i + 1 from by omega]; exact hl
            have HL := Lib.hid HL0
            have HL2 := Lib.hid hl
            clear HL0 hl
            go_wp2_with fail
            refine (less_b k g n cap q' _ _ true _ HQ1.out (by omega) (by omega) (by omega) (by omega) HL.out).mono ?_
            rintro e w2 ⟨rfl, hq2, ho2⟩
            have hb2 : w2.cell? ⟨k, 0, none⟩ = some (.slice (some ⟨g, 0, none⟩) n cap) := hq2.box.cell 0
            have HQ2 := Lib.hid hq2
            have HO2 := Lib.hid ho2
            clear hq2 ho2
            go_wp2_with fail
            refine (swap_b k g n cap q' _ _ w2 HQ2.out (by omega) (by omega) (by omega) (by omega)).mono ?_
            rintro e w3 ⟨rfl, hq3, ho3⟩
            rw [Int.toNat_natCast, show (2 * (i : Int) + 1).toNat = 2 * i + 1 from by omega] at hq3
            have HQ3 := Lib.hid hq3
            have HO3 := Lib.hid ho3
            clear hq3 ho3
            go_wp2_with fail
            go_roundw
            case rel =>
              refine ⟨2 * i + 1, swapQ q' i (2 * i + 1), by go_num, by omega, HQ3.out, (HO.out.trans (HO1.out.nobody _)).trans ((HO2.out.nobody _).trans HO3.out), ?_⟩
              refine Lib.hid (Eq.trans ?_ HU.out)
              rw [downL_fuel (m + 1) m _ _ _ (by omega) (by omega)]
              conv => rhs; rw [downL_succ, if_neg (by omega), HJ.out, if_pos HL2.out]
            case measure => simp [intOf]; omega
          · have HL0 : Cp.lt (gq q' (2 * (i : Int) + 1).toNat) (gq q' (i : Int).toNat) = false := by
              rw [Int.toNat_natCast, show (2 * (i : Int) + 1).toNat = 2 * i + 1 from by omega]; simpa using hl
            have HL := Lib.hid HL0
            have HL2 := Lib.hid hl
            clear HL0 hl
            go_wp2_with fail
            refine (less_b k g n cap q' _ _ false _ HQ1.out (by omega) (by omega) (by omega) (by omega) HL.out).mono ?_
            rintro e w2 ⟨rfl, hq2, ho2⟩
            have HQ2 := Lib.hid hq2
            have HO2 := Lib.hid ho2
            clear hq2 ho2
            go_wp2_with fail
            go_ret
            refine ⟨⟨_, rfl⟩, ?_, (HO.out.trans (HO1.out.nobody _)).trans (HO2.out.nobody _)⟩
            rw [← HU.out, downL_succ, if_neg (by omega), HJ.out, if_neg HL2.out]
            exact HQ2.out
      · have HJ : Hid (kid q' i m = 2 * i + 1) := by unfold kid; exact Lib.hid (if_neg (fun x => h2 x.1))
        have d3 : decide (2 * (i : Int) + 1 + 1 < (m : Int)) = false := decide_eq_false (by omega)
        by_cases hl : Cp.lt (gq q' (2 * i + 1)) (gq q' i) = true
        · have HL0 : Cp.lt (gq q' (2 * (i : Int) + 1).toNat) (gq q' (i : Int).toNat) = true := by
            rw [Int.toNat_natCast, show (2 * (i : Int) + 1).toNat = 2 * i + 1 from by omega]; exact hl
          have HL := Lib.hid HL0
          have HL2 := Lib.hid hl
          clear HL0 hl
          go_wp2_with fail
          refine (less_b k g n cap q' _ _ true _ HQ'.out (by omega) (by omega) (by omega) (by omega) HL.out).mono ?_
          rintro e w2 ⟨rfl, hq2, ho2⟩
          have hb2 : w2.cell? ⟨k, 0, none⟩ = some (.slice (some ⟨g, 0, none⟩) n cap) := hq2.box.cell 0
          have HQ2 := Lib.hid hq2
          have HO2 := Lib.hid ho2
          clear hq2 ho2
          go_wp2_with fail
          refine (swap_b k g n cap q' _ _ w2 HQ2.out (by omega) (by omega) (by omega) (by omega)).mono ?_
          rintro e w3 ⟨rfl, hq3, ho3⟩
          rw [Int.toNat_natCast, show (2 * (i : Int) + 1).toNat = 2 * i + 1 from by omega] at hq3
          have HQ3 := Lib.hid hq3
          have HO3 := Lib.hid ho3
          clear hq3 ho3
          go_wp2_with fail
          go_roundw
          case rel =>
            refine ⟨2 * i + 1, swapQ q' i (2 * i + 1), by go_num, by omega, HQ3.out, HO.out.trans ((HO2.out.nobody _).trans HO3.out), ?_⟩
            refine Lib.hid (Eq.trans ?_ HU.out)
            rw [downL_fuel (m + 1) m _ _ _ (by omega) (by omega)]
            conv => rhs; rw [downL_succ, if_neg (by omega), HJ.out, if_pos HL2.out]
          case measure => simp [intOf]; omega
        · have HL0 : Cp.lt (gq q' (2 * (i : Int) + 1).toNat) (gq q' (i : Int).toNat) = false := by
            rw [Int.toNat_natCast, show (2 * (i : Int) + 1).toNat = 2 * i + 1 from by omega]; simpa using hl
          have HL := Lib.hid HL0
          have HL2 := Lib.hid hl
          clear HL0 hl
          go_wp2_with fail
          refine (less_b k g n cap q' _ _ false _ HQ'.out (by omega) (by omega) (by omega) (by omega) HL.out).mono ?_
          rintro e w2 ⟨rfl, hq2, ho2⟩
          have HQ2 := Lib.hid hq2
          have HO2 := Lib.hid ho2
          clear hq2 ho2
          go_wp2_with fail
          go_ret
          refine ⟨⟨_, rfl⟩, ?_, HO.out.trans (HO2.out.nobody _)⟩
          rw [← HU.out, downL_succ, if_neg (by omega), HJ.out, if_neg HL2.out]
          exact HQ2.out


end Go.Proofs.YthmndclmecnpmaaDoor.Nw
