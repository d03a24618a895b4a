/- Calendar: the contract of the program's ParseSpan. -/
import Derived.Test.YthkkjfofpoifiaaDoorCalTr
namespace Go.Proofs.YthkkjfofpoifiaaDoor
open Go.RowKit
attribute [local go_sem ↓] Go.wp_at_zero Go.wp_at_succ

theorem empty_list' {s : ByteArray} (h : s.data.toList = []) : s.toList.isEmpty = true ∧ s.toList = [] := by
  rw [toList_data, h]; exact ⟨rfl, rfl⟩
theorem nonempty_list' {s : ByteArray} (h : ¬ s.data.toList = []) : s.toList.isEmpty = false ∧ ¬ s.toList = [] := by
  rw [toList_data]
  exact ⟨by cases e : s.data.toList with
    | nil => exact absurd e h
    | cons a l => rfl, h⟩
theorem step_out {rest : List UInt8} {d : Nat} (h : (rest.takeWhile isDg).length = d) (h2 : d = 0 ∨ 9 < d ∨ False) : ∀ nm sz tot, stepI nm sz tot rest = some (tot, rest) := by
  intro nm sz tot
  unfold stepI
  simp only []
  rw [h, if_pos (by rcases h2 with h2 | h2 | h2; exact .inl h2; exact .inr (.inl h2); exact h2.elim)]
theorem step_trim {rest nm : List UInt8} {d : Nat} (h : (rest.takeWhile isDg).length = d) (h2 : ¬ trimR ((rest.drop d).take 2) = nm) (sz tot : Nat) : stepI nm sz tot rest = some (tot, rest) := by
  unfold stepI
  simp only []
  rw [h, if_pos (.inr (.inr h2))]
theorem ext_two {s : ByteArray} {d m : Nat} (h : min s.size (d + 2) = m) : (s.extract d m).data.toList = (s.data.toList.drop d).take 2 := by
  rw [Lib.extract_data]
  by_cases h2 : d + 2 ≤ s.size
  · rw [show m - d = 2 by omega]
  · rw [List.take_of_length_le (by rw [List.length_drop, size_len]; omega), List.take_of_length_le (by rw [List.length_drop, size_len]; omega)]
theorem trimR_is (s q : ByteArray) (hs : s.size ≤ 9223372036854775807) (hq : q.data.toList = trimR s.data.toList) (w : World) : Calls Tryd.prog 57 #[.string s, .string ⟨#[48, 49, 50, 51, 52, 53, 54, 55, 56, 57]⟩] w fun e w' => e = .returned (.string q) ∧ Below w.heap.size w w' := by
  refine (trimR_any s hs w).mono ?_
  rintro e w' ⟨p, rfl, hp, hb⟩
  have : p = q := str_ext (by rw [hp, hq])
  subst this
  exact ⟨rfl, hb⟩
theorem trim_len {z n d : Nat} {l : List UInt8} (h : z = (trimR ((l.drop d).take 2)).length) (hl : l.length = n) (hd : d ≤ n) : d + z ≤ n := by
  have h1 : (trimR ((l.drop d).take 2)).length ≤ ((l.drop d).take 2).length := by
    unfold trimR
    rw [List.length_reverse]
    have := (List.dropWhile_sublist isDg (l := ((l.drop d).take 2).reverse)).length_le
    rwa [List.length_reverse] at this
  rw [List.length_take, List.length_drop] at h1
  omega
theorem step_over {rest nm : List UInt8} {d nn sz pr tot : Nat} (h : (rest.takeWhile isDg).length = d) (h0 : ¬ d = 0) (h9 : d ≤ 9) (ht : trimR ((rest.drop d).take 2) = nm) (hn : numL (rest.take d) = nn) (hp : nn * sz = pr) (ho : ¬ tot + pr ≤ 17592186044416) : stepI nm sz tot rest = none := by
  unfold stepI
  simp only []
  rw [h, hn, hp, if_neg (by intro x; rcases x with x | x | x; exact h0 x; omega; exact x ht), if_pos (by omega)]
theorem step_ok {rest nm : List UInt8} {d nn sz pr tot : Nat} (h : (rest.takeWhile isDg).length = d) (h0 : ¬ d = 0) (h9 : d ≤ 9) (ht : trimR ((rest.drop d).take 2) = nm) (hn : numL (rest.take d) = nn) (hp : nn * sz = pr) (ho : tot + pr ≤ 17592186044416) : stepI nm sz tot rest = some (tot + pr, rest.drop (d + nm.length)) := by
  unfold stepI
  simp only []
  rw [h, hn, hp, if_neg (by intro x; rcases x with x | x | x; exact h0 x; omega; exact x ht), if_neg (by omega)]
theorem take_tw : ∀ (l : List UInt8), l.take (l.takeWhile isDg).length = l.takeWhile isDg
  | [] => rfl
  | c :: l => by
    cases h : isDg c
    · simp [h]
    · simp [h, take_tw l]
theorem tw_dg : ∀ (l : List UInt8), ∀ c ∈ l.takeWhile isDg, isDg c = true
  | [], c, hc => by simp at hc
  | a :: l, c, hc => by
    cases h : isDg a
    · simp [h] at hc
    · simp [h] at hc
      rcases hc with rfl | hc
      · exact h
      · exact tw_dg l c hc
theorem num_tw {l : List UInt8} {d : Nat} (h : (l.takeWhile isDg).length = d) : numOK l d = true := by
  rw [numOK_iff, ← h, take_tw]
  exact ⟨by have := tw_dw l; omega, tw_dg l⟩
theorem ret2_ints' {a b : Int} {r : Int × Int} (h : r = (a, b)) : Ending.returned (.tuple #[.int .i64 a, .int .i64 b]) = Ending.returned (.tuple #[.int .i64 r.1, .int .i64 r.2]) := by rw [h]
set_option maxRecDepth 100000 in
set_option maxHeartbeats 4000000 in
theorem ParseSpan_any (s : ByteArray) (w : World) (ht : CalTab w) : Calls Tryd.prog 41 #[.string s] w fun e w' => e = .returned (.tuple #[.int .i64 (calSp s.data.toList).1, .int .i64 (calSp s.data.toList).2]) ∧ Below w.heap.size w w' := by
  have HT := Lib.hid ht
  clear ht
  by_cases h32 : s.size ≤ 32
  · have hsi : (s.size : Int) ≤ 32 := by omega
    have HL : Hid (¬ 32 < s.data.toList.length) := Lib.hid (by rw [size_len]; omega)
    go_enter Tryd.func41, Tryd.ntmps41
    go_wp2_with fail
    refine (units_any _).mono ?_
    rintro e w1 ⟨rfl, hb1⟩
    have HB1 := Lib.hid hb1
    clear hb1
    go_wp2_with fail
    go_loopw [4, 5, 19] (fun t s' i wx => ∃ (k tot : Nat) (rest : ByteArray), i = .int .i64 (k : Int) ∧ k ≤ 5 ∧ t = .int .i64 (tot : Int) ∧ tot ≤ 17592186044416 ∧ s' = .string rest ∧ rest.size ≤ 32 ∧ Hid (loopI unitsL 0 s.data.toList = loopI (unitsL.drop k) tot rest.data.toList) ∧ Hid (Below w.heap.size w wx)) (fun _ _ i _ => 5 - (intOf i).toNat)
    case atStart => exact ⟨0, 0, s, rfl, by omega, rfl, by omega, rfl, h32, Lib.hid rfl, HB1⟩
    case round =>
      obtain ⟨k, tot, rest, rfl, hk, rfl, htot, rfl, hrs, HR, HB⟩ := hrel
      by_cases hk5 : k < 5
      · obtain ⟨nm, sz, most, hix, hdrop, hnm, hsz⟩ := unit_at k hk5
        have HDR := Lib.hid hdrop
        have hkI : (k : Int) < 5 := by omega
        have hi := hix wr
        have HC : Hid (∀ w', Below (wr.alloc (.cells #[.string nm, .int .i64 (sz : Int), .int .i64 (most : Int)] 60)).heap.size (wr.alloc (.cells #[.string nm, .int .i64 (sz : Int), .int .i64 (most : Int)] 60)) w' → w'.cell? ⟨wr.heap.size, 0, none⟩ = some (.string nm) ∧ w'.cell? ⟨wr.heap.size, 1, none⟩ = some (.int .i64 (sz : Int))) := Lib.hid (by
          intro w' hb
          have hl : wr.heap.size < (wr.alloc (.cells #[.string nm, .int .i64 (sz : Int), .int .i64 (most : Int)] 60)).heap.size := by simp
          rw [hb.cell (p := ⟨wr.heap.size, 0, none⟩) hl, hb.cell (p := ⟨wr.heap.size, 1, none⟩) hl, World.cell?_alloc_new, World.cell?_alloc_new]
          exact ⟨rfl, rfl⟩)
        have HBA : Hid (Below w.heap.size w (wr.alloc (.cells #[.string nm, .int .i64 (sz : Int), .int .i64 (most : Int)] 60))) := Lib.hid (HB.out.alloc HB.out.size _)
        clear hix hdrop hk
        go_wp2_with fail
        refine (trimL_any rest _).mono ?_
        rintro e w2 ⟨q, rfl, hq, hb2⟩
        obtain ⟨hc0, hc1⟩ := HC.out _ hb2
        have HB2 := Lib.hid (below_trans HBA.out hb2)
        have HST : Hid (loopI unitsL 0 s.data.toList = (stepI nm.data.toList sz tot rest.data.toList).bind fun x => loopI (unitsL.drop (k + 1)) x.1 x.2) := Lib.hid (by rw [HR.out, HDR.out]; rfl)
        obtain ⟨d, HDD⟩ : ∃ d, Hid ((rest.data.toList.takeWhile isDg).length = d) := ⟨_, Lib.hid rfl⟩
        rw [HDD.out] at hq
        have hqi : (rest.size : Int) - (q.size : Int) = (d : Int) := by omega
        have hd32 : (d : Int) ≤ 32 := by omega
        have HBW : Hid (Below (wr.alloc (.cells #[.string nm, .int .i64 (sz : Int), .int .i64 (most : Int)] 60)).heap.size (wr.alloc (.cells #[.string nm, .int .i64 (sz : Int), .int .i64 (most : Int)] 60)) w2.drew) := Lib.hid hb2.drew
        have HB2D := Lib.hid HB2.out.drew
        clear hb2
        by_cases hd0 : d = 0
        · have HNX := Lib.hid (step_out HDD.out (.inl hd0))
          subst hd0
          go_wp2_with fail
          go_quiet (fail)
          go_wp2_with fail
          go_roundw
          case rel => exact ⟨k + 1, tot, rest, by go_num, by omega, rfl, htot, rfl, hrs, Lib.hid (by rw [HST.out, HNX.out nm.data.toList sz tot]; rfl), Lib.hid (below_drewN HB2.out _)⟩
          case measure => simp [intOf]; omega
        · have b1 : ((d : Int) == 0) = false := by simp; omega
          have b0 : (d == 0) = false := by simp; omega
          by_cases hd9 : d ≤ 9
          · have b2 : ¬ (9 : Int) < (d : Int) := by omega
            have b3 : (d : Int) ≤ 9 := by omega
            have HB9 : Hid (decide ((9 : Int) < (d : Int)) = false) := Lib.hid (by simp; omega)
            have b4 : (0 : Int) ≤ (d : Int) := by omega
            have b5 : (d : Int) ≤ (rest.size : Int) := by omega
            obtain ⟨m, HM⟩ : ∃ m : Nat, Hid (min rest.size (d + 2) = m) := ⟨_, Lib.hid rfl⟩
            have HM1 : Hid (min (rest.size : Int) ((d : Int) + 2) = (m : Int)) := Lib.hid (by have := HM.out; omega)
            have HM2 : Hid (IntKind.i64.wrap ((d : Int) + 2) = (d : Int) + 2) := Lib.hid (by rw [IntKind.wrap_i64]; omega)
            have m1 : (d : Int) ≤ (m : Int) := by have := HM.out; omega
            have m2 : (m : Int) ≤ (rest.size : Int) := by have := HM.out; omega
            have m3 : (0 : Int) ≤ (m : Int) := by omega
            have HEX : Hid ((rest.extract d m).data.toList = (rest.data.toList.drop d).take 2) := Lib.hid (ext_two HM.out)
            have HEZ : (rest.extract d m).size ≤ 9223372036854775807 := by rw [ByteArray.size_extract]; omega
            obtain ⟨q2, HQ2⟩ : ∃ q2 : ByteArray, Hid (q2.data.toList = trimR ((rest.data.toList.drop d).take 2)) := ⟨⟨_⟩, Lib.hid rfl⟩
            have HTR := Lib.hid (trimR_is (rest.extract d m) q2 HEZ (by rw [HQ2.out, HEX.out]))
            by_cases hnn : q2 = nm
            · rw [hnn] at HTR HQ2
              have hle := trim_len (by rw [← size_len]; exact congrArg List.length HQ2.out : nm.size = _) (by rw [size_len] : rest.data.toList.length = rest.size) (show d ≤ rest.size by omega)
              have hle2 : (d : Int) + (nm.size : Int) ≤ (rest.size : Int) := by omega
              clear HEZ hnn
              go_wp2_with fail
              have b2' := HB9.out
              have hm1 := HM1.out
              have hm2 := HM2.out
              go_region_held3 (fun w' => w'.cell? ⟨wr.heap.size, 0, none⟩ = some (.string nm) ∧ w'.cell? ⟨wr.heap.size, 1, none⟩ = some (.int .i64 (sz : Int))) (first | exact ⟨hc0, hc1⟩ | exact hcc) (first | (go_at_call 57; refine (HTR.out _).mono ?_; rintro e w' ⟨rfl, hb3⟩; have hcc := HC.out _ (HBW.out.trans (hb3.mono HBW.out.size)); have HB3 := Lib.hid (below_trans HB2D.out hb3); clear hb3))
              go_wp2_with fail
              obtain ⟨hcc0, hcc1⟩ := hcc
              have hNO : numOK rest.data.toList d = true := num_tw HDD.out
              have hrz : rest.size ≤ 9223372036854775807 := by omega
              obtain ⟨nn, HNN⟩ : ∃ nn, Hid (numL (rest.data.toList.take d) = nn) := ⟨_, Lib.hid rfl⟩
              have hnb : nn < 1000000000 := by rw [← HNN.out]; exact numL_bd _ d hd9 (numOK_iff.1 hNO).2
              refine (number_any rest d hd9 hrz _).mono ?_
              rintro e w4 ⟨(⟨_, s2, rfl, hs2⟩ | ⟨hok, rfl⟩), hb4⟩
              · rw [HNN.out]
                obtain ⟨pr, HPR⟩ : ∃ pr, Hid (nn * sz = pr) := ⟨_, Lib.hid rfl⟩
                have hpr : (nn : Int) * (sz : Int) = (pr : Int) := by rw [← HPR.out]; exact (Int.natCast_mul nn sz).symm
                have hpb : pr ≤ 1000000000 * 86400000 := by rw [← HPR.out]; exact Nat.mul_le_mul (by omega) hsz
                have hpb2 : (pr : Int) ≤ 86400000000000000 := by omega
                have hpb0 : (0 : Int) ≤ (pr : Int) := by omega
                have htI : (tot : Int) ≤ 17592186044416 := by omega
                have ht0 : (0 : Int) ≤ (tot : Int) := by omega
                have k0 : w4.cell? ⟨wr.heap.size, 0, none⟩ = some (.string nm) := (hb4.cell (p := ⟨wr.heap.size, 0, none⟩) (World.block_lt_of_cell? _ _ hcc0)).trans hcc0
                have k1 : w4.cell? ⟨wr.heap.size, 1, none⟩ = some (.int .i64 (sz : Int)) := (hb4.cell (p := ⟨wr.heap.size, 1, none⟩) (World.block_lt_of_cell? _ _ hcc1)).trans hcc1
                have HB4 := Lib.hid (below_trans HB3.out hb4)
                by_cases ho : tot + pr ≤ 17592186044416
                · have o1 : ¬ (17592186044416 : Int) < (tot : Int) + (pr : Int) := by omega
                  have HNX := Lib.hid (step_ok HDD.out hd0 hd9 HQ2.out.symm HNN.out HPR.out ho)
                  clear hb4 hs2 hcc0 hcc1 hNO ho
                  go_wp2_with fail
                  go_roundw
                  case rel => exact ⟨k + 1, tot + pr, _, by go_num, by omega, by go_num, by omega, rfl, by rw [ByteArray.size_extract]; omega, Lib.hid (by rw [HST.out, HNX.out, ext_drop, size_len]; rfl), HB4⟩
                  case measure => simp [intOf]; omega
                · have o1 : (17592186044416 : Int) < (tot : Int) + (pr : Int) := by omega
                  have HF : Hid (calSp s.data.toList = (0, 13)) := Lib.hid (by
                    unfold calSp
                    rw [if_neg HL.out, HST.out, step_over HDD.out hd0 hd9 HQ2.out.symm HNN.out HPR.out ho]
                    rfl)
                  clear hb4 hs2 hcc0 hcc1 hNO ho
                  go_wp2_with fail
                  go_ret2
                  exact ⟨ret2_ints' HF.out, HB4.out⟩
              · rw [hNO] at hok
                cases hok
            · have HNX : Hid (∀ sz tot, stepI nm.data.toList sz tot rest.data.toList = some (tot, rest.data.toList)) := Lib.hid (fun sz tot => step_trim HDD.out (fun z => hnn (str_ext (by rw [HQ2.out, z]))) sz tot)
              have x2 : ¬ q2.toList = nm.toList := fun z => hnn (str_ext (by rw [← toList_data, ← toList_data]; exact z))
              have x1 : (q2.toList == nm.toList) = false := by simpa using x2
              clear hnn HEZ
              go_wp2_with fail
              have b2' := HB9.out
              have hm1 := HM1.out
              have hm2 := HM2.out
              go_region_held3 (fun w' => w'.cell? ⟨wr.heap.size, 0, none⟩ = some (.string nm) ∧ w'.cell? ⟨wr.heap.size, 1, none⟩ = some (.int .i64 (sz : Int))) (first | exact ⟨hc0, hc1⟩ | exact hcc) (first | (go_at_call 57; refine (HTR.out _).mono ?_; rintro e w' ⟨rfl, hb3⟩; have hcc := HC.out _ (HBW.out.trans (hb3.mono HBW.out.size)); have HB3 := Lib.hid (below_trans HB2D.out hb3); clear hb3))
              go_wp2_with fail
              go_roundw
              case rel => exact ⟨k + 1, tot, rest, by go_num, by omega, rfl, htot, rfl, hrs, Lib.hid (by rw [HST.out, HNX.out sz tot]; rfl), HB3⟩
              case measure => simp [intOf]; omega
          · have HNX := Lib.hid (step_out HDD.out (.inr (.inl (by omega))))
            have b2 : (9 : Int) < (d : Int) := by omega
            clear hd9
            go_wp2_with fail
            go_quiet (fail)
            go_wp2_with fail
            go_roundw
            case rel => exact ⟨k + 1, tot, rest, by go_num, by omega, rfl, htot, rfl, hrs, Lib.hid (by rw [HST.out, HNX.out nm.data.toList sz tot]; rfl), Lib.hid (below_drewN HB2.out _)⟩
            case measure => simp [intOf]; omega
      · obtain rfl : k = 5 := by omega
        obtain ⟨tx, HX⟩ : ∃ tx : ByteArray, Hid (tx = ⟨(spanL tot).toArray⟩) := ⟨_, Lib.hid rfl⟩
        have HE : Hid (calSp s.data.toList = if rest.data.toList = [] ∧ tx = s then ((tot : Int), 0) else (0, 13)) := Lib.hid (by
          unfold calSp
          rw [if_neg HL.out, HR.out]
          show (if rest.data.toList = [] ∧ spanL tot = s.data.toList then ((tot : Int), 0) else (0, 13)) = _
          have : spanL tot = s.data.toList ↔ tx = s := ⟨fun h => by rw [HX.out]; exact str_ext h, fun h => by rw [← h, HX.out]⟩
          simp only [this])
        by_cases hre : rest.data.toList = []
        · obtain ⟨r1, r2⟩ := empty_list' hre
          have r3 : (rest.toList == []) = true := by rw [r2]; rfl
          by_cases hx : tx = s
          · have HF := Lib.hid (HE.out.trans (if_pos ⟨hre, hx⟩))
            have x1 : (tx.toList == s.toList) = true := by rw [hx]; simp
            have x2 : tx.toList = s.toList := by rw [hx]
            clear hre hx
            go_wp2_with fail
            refine (SpanText_yes tot htot _ (HT.out.below HB.out)).mono ?_
            rw [← HX.out]
            rintro e w2 ⟨rfl, hb2⟩
            have HB2 := Lib.hid (below_trans HB.out hb2)
            clear hb2
            go_wp2_with fail
            go_ret2
            exact ⟨ret2_ints' HF.out, HB2.out⟩
          · have HF := Lib.hid (HE.out.trans (if_neg (fun z => hx z.2)))
            have x2 : ¬ tx.toList = s.toList := fun z => hx (str_ext (by rw [← toList_data, ← toList_data]; exact z))
            have x1 : (tx.toList == s.toList) = false := by simpa using x2
            clear hre hx
            go_wp2_with fail
            refine (SpanText_yes tot htot _ (HT.out.below HB.out)).mono ?_
            rw [← HX.out]
            rintro e w2 ⟨rfl, hb2⟩
            have HB2 := Lib.hid (below_trans HB.out hb2)
            clear hb2
            go_wp2_with fail
            go_ret2
            exact ⟨ret2_ints' HF.out, HB2.out⟩
        · obtain ⟨r1, r2⟩ := nonempty_list' hre
          have r3 : (rest.toList == []) = false := by simpa using r2
          have HF := Lib.hid (HE.out.trans (if_neg (fun z => hre z.1)))
          clear hre
          go_wp2_with fail
          refine (SpanText_yes tot htot _ (HT.out.below HB.out)).mono ?_
          rw [← HX.out]
          rintro e w2 ⟨rfl, hb2⟩
          have HB2 := Lib.hid (below_trans HB.out hb2)
          clear hb2
          go_wp2_with fail
          go_ret2
          exact ⟨ret2_ints' HF.out, HB2.out⟩
  · have hsi : (32 : Int) < (s.size : Int) := by omega
    have HE : Hid (calSp s.data.toList = (0, 5)) := Lib.hid (by unfold calSp; rw [if_pos (by rw [size_len]; omega)])
    go_enter Tryd.func41, Tryd.ntmps41
    go_wp2_with fail
    go_ret2
    exact ⟨ret2_ints' HE.out, Below.refl _ _⟩

end Go.Proofs.YthkkjfofpoifiaaDoor
