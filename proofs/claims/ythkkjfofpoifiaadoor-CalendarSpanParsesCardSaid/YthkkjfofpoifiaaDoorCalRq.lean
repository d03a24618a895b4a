/- Calendar: the reference's ParseSpan. -/
import Derived.Test.YthkkjfofpoifiaaDoorCalRs
import Derived.Test.YthkkjfofpoifiaaDoorCalRp
import Derived.Test.YthkkjfofpoifiaaDoorCalPs
import Derived.Deep.CutBlock
namespace Go.Proofs.YthkkjfofpoifiaaDoor
open Go.RowKit
attribute [local go_sem ↓] Go.wp_at_zero Go.wp_at_succ

theorem numL_bd13 (l : List UInt8) (k : Nat) (hk : k ≤ 13) (h : ∀ c ∈ l.take k, isDg c = true) : numL (l.take k) < 10000000000000 := by
  have h1 := numL_lt (l.take k).length (l.take k) rfl h
  have h2 : (l.take k).length ≤ 13 := by rw [List.length_take]; omega
  have h3 : 10 ^ (l.take k).length ≤ 10 ^ 13 := Nat.pow_le_pow_right (by omega) h2
  have h9 : (10 : Nat) ^ 13 = 10000000000000 := rfl
  omega
set_option maxRecDepth 100000 in
set_option maxHeartbeats 1000000 in
theorem rNumber13 (s : ByteArray) (hs : s.size ≤ 13) (hd : ∀ c ∈ s.data.toList, isDg c = true) (w : World) : Calls Tryd.prog 51 #[.string s] w fun e w' => e = .returned (.int .i64 (numL s.data.toList : Int)) ∧ w = w' := by
  have HD := Lib.hid hd
  clear hd
  go_enter Tryd.func51, Tryd.ntmps51
  go_wp2_with fail
  go_loop [3, 4] (fun n i => ∃ j : Nat, j ≤ s.size ∧ i = .int .i64 (j : Int) ∧ n = .int .i64 (numL (s.data.toList.take j) : Int)) (fun _ i => s.size - (intOf i).toNat)
  case atStart => exact ⟨0, Nat.zero_le _, rfl, rfl⟩
  case round =>
    obtain ⟨j, hj, rfl, rfl⟩ := hrel
    have hnb := numL_bd13 s.data.toList j (by omega) (fun c hc => HD.out c (List.mem_of_mem_take hc))
    by_cases hjs : j < s.size
    · have hjI : (j : Int) < (s.size : Int) := by omega
      have hj0 : (0 : Int) ≤ (j : Int) := by omega
      have hd : isDg s[j] = true := HD.out _ (by
        have : s.data.toList[j]'(by rw [size_len]; exact hjs) = s[j] := rfl
        rw [← this]
        exact List.getElem_mem _)
      have HST := Lib.hid (numL_step s j hjs hd)
      have h48 : (48 : Int) ≤ (s[j].toNat : Int) := by unfold isDg at hd; simp only [Bool.and_eq_true, decide_eq_true_eq] at hd; omega
      have h57 : (s[j].toNat : Int) ≤ 57 := by unfold isDg at hd; simp only [Bool.and_eq_true, decide_eq_true_eq] at hd; omega
      clear hd
      go_wp2_with fail
      go_round
      case rel => exact ⟨j + 1, by omega, by go_num, by rw [HST.out]⟩
      case measure => simp [intOf]; omega
    · obtain rfl : j = s.size := by omega
      go_wp2_with fail
      go_ret
      exact ⟨ret_nat (by rw [List.take_of_length_le (by rw [size_len]; exact Nat.le_refl _)]), rfl⟩

/-- Where the digits at a place end. -/
structure DigTo (s : ByteArray) (i K : Nat) : Prop where
  le : i ≤ K
  hi : K ≤ s.size
  few : K - i ≤ 13
  dig : ∀ j (h : j < s.size), i ≤ j → j < K → isDg s[j] = true
  stop : K < s.size → K - i = 13 ∨ ∀ h : K < s.size, isDg s[K] = false
  is : dig13 (s.data.toList.drop i) = K - i

theorem tw_get (l : List UInt8) (j : Nat) (h : j < (l.takeWhile isDg).length) (h' : j < l.length) : isDg l[j] = true := by
  have h1 := tw_dg l ((l.takeWhile isDg)[j]) (List.getElem_mem h)
  have h2 : (l.takeWhile isDg)[j] = l[j] := by
    have := List.takeWhile_prefix isDg (l := l)
    exact this.getElem h
  rwa [h2] at h1
theorem tw_stop : ∀ (l : List UInt8) (h : (l.takeWhile isDg).length < l.length), isDg l[(l.takeWhile isDg).length] = false
  | [], h => absurd h (by simp)
  | c :: l, h => by
    cases hc : isDg c
    · simp [hc]
    · have e : (c :: l).takeWhile isDg = c :: l.takeWhile isDg := by simp [hc]
      have h2 : (l.takeWhile isDg).length < l.length := by rw [e] at h; simpa using h
      have := tw_stop l h2
      simp only [e, List.length_cons, List.getElem_cons_succ]
      exact this
theorem digTo (s : ByteArray) (i : Nat) (hi : i ≤ s.size) : DigTo s i (i + dig13 (s.data.toList.drop i)) := by
  have hl : (s.data.toList.drop i).length = s.size - i := by rw [List.length_drop, size_len]
  obtain ⟨T, hT⟩ : ∃ T, T = (s.data.toList.drop i).take 13 := ⟨_, rfl⟩
  have hTl : T.length = min 13 (s.size - i) := by rw [hT, List.length_take, hl]
  have hd : dig13 (s.data.toList.drop i) = (T.takeWhile isDg).length := by unfold dig13; rw [hT]
  have hle : (T.takeWhile isDg).length ≤ T.length := by have := tw_dw T; omega
  have hg : ∀ j (h : j < T.length) (h' : i + j < s.size), T[j] = s[i + j] := by
    intro j h h'
    subst hT
    rw [List.getElem_take, List.getElem_drop]
    rfl
  refine ⟨by omega, by omega, by omega, fun j h h1 h2 => ?_, fun h => ?_, by omega⟩
  · obtain ⟨t, rfl⟩ : ∃ t, j = i + t := ⟨j - i, by omega⟩
    have := tw_get T t (by omega) (by omega)
    rwa [hg t (by omega) h] at this
  · by_cases h13 : (T.takeWhile isDg).length = 13
    · left; omega
    · right
      intro _
      have h3 : (T.takeWhile isDg).length < T.length := by omega
      have := tw_stop T h3
      rw [hg _ h3 (by omega)] at this
      simp only [hd]
      exact this
/-- The unit at a place, by the bytes there. -/
theorem drop_two (s : ByteArray) (K : Nat) (h : K + 1 < s.size) : s.data.toList.drop K = s[K] :: s[K + 1] :: s.data.toList.drop (K + 2) := by
  rw [List.drop_eq_getElem_cons (by rw [size_len]; omega), List.drop_eq_getElem_cons (by rw [size_len]; omega)]
  rfl
theorem drop_one' (s : ByteArray) (K : Nat) (h : K < s.size) (h1 : ¬ K + 1 < s.size) : s.data.toList.drop K = [s[K]] := by
  rw [List.drop_eq_getElem_cons (by rw [size_len]; omega), List.drop_of_length_le (by rw [size_len]; omega)]
  rfl
theorem ext_ms (s : ByteArray) (K : Nat) (h : K + 1 < s.size) : (s.extract K (K + 2)).toList = [s[K], s[K + 1]] := by
  rw [toList_data, Lib.extract_data, drop_two s K h, show K + 2 - K = 2 by omega]
  rfl
theorem u8_eq {c : UInt8} {n : Nat} (hn : n < 256) : c = UInt8.ofNat n ↔ c.toNat = n := by
  constructor
  · intro e; rw [e, UInt8.toNat_ofNat_of_lt' (by simpa [UInt8.size] using hn)]
  · intro e; exact UInt8.toNat_inj.1 (by rw [e, UInt8.toNat_ofNat_of_lt' (by simpa [UInt8.size] using hn)])
/-- The units by one byte that is not the first of two. -/
def unit1 (n : Nat) : Option (Nat × Nat) := if n = 100 then some (86400000, 1) else if n = 104 then some (3600000, 1) else if n = 109 then some (60000, 1) else if n = 115 then some (1000, 1) else none
theorem unitOf_cons (c : UInt8) (r : List UInt8) (h : ¬ (c = 109 ∧ r.head? = some 115)) : unitOf (c :: r) = unit1 c.toNat := by
  rw [unitOf, if_neg h]
  unfold unit1
  have e1 : c = 100 ↔ c.toNat = 100 := u8_eq (n := 100) (by omega)
  have e2 : c = 104 ↔ c.toNat = 104 := u8_eq (n := 104) (by omega)
  have e3 : c = 109 ↔ c.toNat = 109 := u8_eq (n := 109) (by omega)
  have e4 : c = 115 ↔ c.toNat = 115 := u8_eq (n := 115) (by omega)
  simp only [e1, e2, e3, e4]
theorem unitOf_bd {l : List UInt8} {u : Nat × Nat} (h : unitOf l = some u) : 0 < u.1 ∧ u.1 ≤ 86400000 ∧ 1 ≤ u.2 ∧ u.2 ≤ l.length := by
  cases l with
  | nil => cases h
  | cons c r =>
    rw [unitOf] at h
    split at h
    · rename_i hc
      injection h with h
      subst h
      cases r with
      | nil => simp at hc
      | cons d r => simp
    · (repeat' split at h) <;> first | (injection h with h; subst h; simp) | cases h
theorem num_ext (s : ByteArray) (k K : Nat) : (s.extract k K).data.toList = (s.data.toList.drop k).take (K - k) := Lib.extract_data s k K
theorem num_call {s : ByteArray} {k K : Nat} (h : DigTo s k K) (w : World) : Calls Tryd.prog 51 #[.string (s.extract k K)] w fun e w' => e = .returned (.int .i64 (numL ((s.data.toList.drop k).take (K - k)) : Int)) ∧ w = w' := by
  have := rNumber13 (s.extract k K) (by rw [ByteArray.size_extract]; have := h.few; omega) (fun c hc => by
    rw [num_ext] at hc
    obtain ⟨j, hj, rfl⟩ := List.mem_iff_getElem.1 hc
    rw [List.length_take, List.length_drop, size_len] at hj
    rw [List.getElem_take, List.getElem_drop]
    exact h.dig (k + j) (by omega) (by omega) (by omega)) w
  rw [num_ext] at this
  exact this
def UnitMid (u : Nat × Nat) (w : World) (a b : Value) (wx : World) : Prop := a = .int .i64 (u.1 : Int) ∧ b = .int .i64 (u.2 : Int) ∧ wx = w

set_option maxRecDepth 100000 in
set_option maxHeartbeats 8000000 in
theorem rParseSpan_any (s : ByteArray) (w : World) : Calls Tryd.prog 43 #[.string s] w fun e w' => e = .returned (.tuple #[.int .i64 (calSp s.data.toList).1, .int .i64 (calSp s.data.toList).2]) ∧ Below w.heap.size w w' := by
  rw [← refSp_cal]
  by_cases h32 : s.size ≤ 32
  · have hsi : (s.size : Int) ≤ 32 := by omega
    have HL : Hid (¬ 32 < s.data.toList.length) := Lib.hid (by rw [size_len]; omega)
    go_enter Tryd.func43, Tryd.ntmps43
    go_wp2_with fail
    go_loop [4, 5] (fun t i => ∃ (k tot f : Nat), i = .int .i64 (k : Int) ∧ k ≤ s.size ∧ t = .int .i64 (tot : Int) ∧ tot ≤ 17592186044416 * k ∧ s.size - k ≤ f ∧ Hid (rLoop s.data.toList.length 0 s.data.toList = rLoop f tot (s.data.toList.drop k))) (fun _ i => 40 - (intOf i).toNat)
    case atStart => exact ⟨0, 0, s.size, rfl, by omega, rfl, by omega, by omega, Lib.hid (by rw [size_len]; rfl)⟩
    case round =>
      obtain ⟨k, tot, f, rfl, hk, rfl, htot, hf, HR⟩ := hrel
      have htI : (tot : Int) ≤ 17592186044416 * 32 := by omega
      have ht0 : (0 : Int) ≤ (tot : Int) := by omega
      by_cases hks : k < s.size
      · have hkI : (k : Int) < (s.size : Int) := by omega
        have hk0 : (0 : Int) ≤ (k : Int) := by omega
        obtain ⟨g, HG⟩ : ∃ g, Hid (f = g + 1) := ⟨f - 1, Lib.hid (by omega)⟩
        have hg : s.size - k ≤ g + 1 := by rw [← HG.out]; exact hf
        obtain ⟨K, HK⟩ : ∃ K, Hid (K = k + dig13 (s.data.toList.drop k)) := ⟨_, Lib.hid rfl⟩
        have hD := digTo s k hk
        rw [← HK.out] at hD
        have HD := Lib.hid hD
        have hK1 := hD.le
        have hK2 := hD.hi
        have hK3 := hD.few
        obtain ⟨nn, HNN⟩ : ∃ nn, Hid (numL ((s.data.toList.drop k).take (K - k)) = nn) := ⟨_, Lib.hid rfl⟩
        have HNC : Hid (∀ w : World, Calls Tryd.prog 51 #[.string (s.extract k K)] w fun e w' => e = .returned (.int .i64 (nn : Int)) ∧ w = w') := Lib.hid (by rw [← HNN.out]; exact num_call hD)
        have HST : Hid (rLoop s.data.toList.length 0 s.data.toList = ((unitOf (s.data.toList.drop K)).bind fun u => if 17592186044416 / u.1 < nn then none else some (tot + nn * u.1, s.data.toList.drop (K + u.2))).bind fun x => rLoop g x.1 x.2) := Lib.hid (by
          rw [HR.out, HG.out, rLoop_step _ _ (by rw [List.drop_eq_getElem_cons (by rw [size_len]; omega)]; simp)]
          unfold rStep
          rw [hD.is, HNN.out]
          simp only [List.drop_drop]
          rw [show k + (K - k) = K by omega]
          congr 2
          funext u
          rw [show k + (K - k + u.2) = K + u.2 by omega])
        have hKI : (k : Int) ≤ (K : Int) := by omega
        have hKS : (K : Int) ≤ (s.size : Int) := by omega
        have hK0 : (0 : Int) ≤ (K : Int) := by omega
        have hnn : nn < 10000000000000 := by
          rw [← HNN.out]
          refine numL_bd13 _ _ hK3 (fun c hc => ?_)
          obtain ⟨j, hj, rfl⟩ := List.mem_iff_getElem.1 hc
          rw [List.length_take, List.length_drop, size_len] at hj
          rw [List.getElem_take, List.getElem_drop]
          exact hD.dig (k + j) (by omega) (by omega) (by omega)
        clear hD
        go_upto_block 2 with fail
        go_cut [6] (fun t wx => t = .int .i64 (K : Int) ∧ wx = w)
        case first =>
          go_wp2_with fail
          go_loop [6] (fun t => ∃ j : Nat, t = .int .i64 (j : Int) ∧ k ≤ j ∧ j ≤ K) (fun t => 40 - (intOf t).toNat)
          case atStart => exact ⟨k, rfl, Nat.le_refl _, hK1⟩
          case round =>
            obtain ⟨j, rfl, hj1, hj2⟩ := hrel
            have hj0 : (0 : Int) ≤ (j : Int) := by omega
            have hjk : (k : Int) ≤ (j : Int) := by omega
            by_cases hjK : j < K
            · have hjs : j < s.size := by omega
              have hjsI : (j : Int) < (s.size : Int) := by omega
              have hj13 : (j : Int) - (k : Int) < 13 := by omega
              have hd := HD.out.dig j hjs hj1 hjK
              have h48 : (48 : Int) ≤ (s[j].toNat : Int) := by unfold isDg at hd; simp only [Bool.and_eq_true, decide_eq_true_eq] at hd; omega
              have h57 : (s[j].toNat : Int) ≤ 57 := by unfold isDg at hd; simp only [Bool.and_eq_true, decide_eq_true_eq] at hd; omega
              clear hd
              go_wp2_with fail
              go_round
              case rel => exact ⟨j + 1, by go_num, by omega, by omega⟩
              case measure => simp [intOf]; omega
            · obtain rfl : j = K := by omega
              by_cases hKs : j < s.size
              · have hKsI : (j : Int) < (s.size : Int) := by omega
                by_cases h13 : j - k = 13
                · have h13I : ¬ (j : Int) - (k : Int) < 13 := by omega
                  clear h13 hjK
                  go_wp2_with fail
                  go_meet
                  exact ⟨rfl, rfl⟩
                · have h13I : (j : Int) - (k : Int) < 13 := by omega
                  have hd := (HD.out.stop hKs).resolve_left h13 hKs
                  by_cases h48 : s[j].toNat < 48
                  · have h48I : ¬ (48 : Int) ≤ (s[j].toNat : Int) := by omega
                    clear hd h48 h13 hjK
                    go_wp2_with fail
                    go_meet
                    exact ⟨rfl, rfl⟩
                  · have h48I : (48 : Int) ≤ (s[j].toNat : Int) := by omega
                    have h57I : ¬ (s[j].toNat : Int) ≤ 57 := by
                      intro x
                      unfold isDg at hd
                      simp at hd
                      omega
                    clear hd h48 h13 hjK
                    go_wp2_with fail
                    go_meet
                    exact ⟨rfl, rfl⟩
              · have hKsI : ¬ (j : Int) < (s.size : Int) := by omega
                clear hKs hjK
                go_wp2_with fail
                go_meet
                exact ⟨rfl, rfl⟩
        case rest =>
          obtain ⟨rfl, hwc⟩ := hcut
          have hwc := hwc.symm
          subst hwc
          go_wp2_with fail
          refine (HNC.out _).mono ?_
          rintro e w' ⟨rfl, rfl⟩
          obtain ⟨U, HU⟩ : ∃ U, Hid (unitOf (s.data.toList.drop K) = U) := ⟨_, Lib.hid rfl⟩
          rw [HU.out] at HST
          go_upto_block 4 with fail
          go_cut [8, 9] (fun a b wx => UnitMid (U.getD (0, 0)) w a b wx)
          case first =>
            by_cases hK1 : K + 1 < s.size
            · have hK1I : (K : Int) + 1 < (s.size : Int) := by omega
              have hKs : (K : Int) < (s.size : Int) := by omega
              have hK2I : (K : Int) + 2 ≤ (s.size : Int) := by omega
              have hK3I : (K : Int) ≤ (K : Int) + 2 := by omega
              have hK4I : (0 : Int) ≤ (K : Int) + 2 := by omega
              have hX := ext_ms s K hK1
              by_cases hms : s[K].toNat = 109 ∧ s[K + 1].toNat = 115
              · have x1 : (s.extract K (K + 2)).toList = [109, 115] := by
                  rw [hX, UInt8.toNat_inj.1 (show s[K].toNat = (109 : UInt8).toNat from hms.1), UInt8.toNat_inj.1 (show s[K + 1].toNat = (115 : UInt8).toNat from hms.2)]
                have x2 : ((s.extract K (K + 2)).toList == [109, 115]) = true := by rw [x1]; rfl
                have HE : Hid (U.getD (0, 0) = (1, 2)) := Lib.hid (by
                  rw [← HU.out, drop_two s K hK1, unitOf, if_pos ⟨UInt8.toNat_inj.1 hms.1, by simp only [List.head?_cons]; rw [UInt8.toNat_inj.1 (show s[K + 1].toNat = (115 : UInt8).toNat from hms.2)]⟩]
                  rfl)
                clear hms hX hK1
                go_wp2_with fail
                go_meet
                rw [HE.out]
                exact ⟨rfl, rfl, rfl⟩
              · have x1 : ¬ (s.extract K (K + 2)).toList = [109, 115] := by
                  rw [hX]
                  intro e
                  simp only [List.cons.injEq, and_true] at e
                  exact hms ⟨by rw [e.1]; rfl, by rw [e.2]; rfl⟩
                have x2 : ((s.extract K (K + 2)).toList == [109, 115]) = false := by simpa using x1
                have HE : Hid (U = unit1 s[K].toNat) := Lib.hid (by
                  rw [← HU.out, drop_two s K hK1, unitOf_cons]
                  rintro ⟨e1, e2⟩
                  simp only [List.head?_cons, Option.some.injEq] at e2
                  exact hms ⟨by rw [e1]; rfl, by rw [e2]; rfl⟩)
                obtain ⟨c, HC⟩ : ∃ c : Nat, Hid (s[K].toNat = c) := ⟨_, Lib.hid rfl⟩
                rw [HC.out] at HE
                have hcc : (s[K].toNat : Int) = (c : Int) := by rw [HC.out]
                clear hms hX
                by_cases c1 : c = 100
                · have HF : Hid (U.getD (0, 0) = (86400000, 1)) := Lib.hid (by rw [HE.out, c1]; rfl)
                  subst c1
                  go_wp2_with fail
                  go_meet
                  rw [HF.out]
                  exact ⟨rfl, rfl, rfl⟩
                by_cases c2 : c = 104
                · have HF : Hid (U.getD (0, 0) = (3600000, 1)) := Lib.hid (by rw [HE.out, c2]; rfl)
                  subst c2
                  go_wp2_with fail
                  go_meet
                  rw [HF.out]
                  exact ⟨rfl, rfl, rfl⟩
                by_cases c3 : c = 109
                · have HF : Hid (U.getD (0, 0) = (60000, 1)) := Lib.hid (by rw [HE.out, c3]; rfl)
                  subst c3
                  go_wp2_with fail
                  go_meet
                  rw [HF.out]
                  exact ⟨rfl, rfl, rfl⟩
                by_cases c4 : c = 115
                · have HF : Hid (U.getD (0, 0) = (1000, 1)) := Lib.hid (by rw [HE.out, c4]; rfl)
                  subst c4
                  go_wp2_with fail
                  go_meet
                  rw [HF.out]
                  exact ⟨rfl, rfl, rfl⟩
                have HF : Hid (U.getD (0, 0) = (0, 0)) := Lib.hid (by rw [HE.out]; unfold unit1; rw [if_neg c1, if_neg c2, if_neg c3, if_neg c4]; rfl)
                have d1 : ((c : Int) == 100) = false := by simp; omega
                have d2 : ((c : Int) == 104) = false := by simp; omega
                have d3 : ((c : Int) == 109) = false := by simp; omega
                have d4 : ((c : Int) == 115) = false := by simp; omega
                clear c1 c2 c3 c4
                go_wp2_with fail
                go_meet
                rw [HF.out]
                exact ⟨rfl, rfl, rfl⟩
            · have hK1I : ¬ (K : Int) + 1 < (s.size : Int) := by omega
              by_cases hK0s : K < s.size
              · have hKs : (K : Int) < (s.size : Int) := by omega
                have HE : Hid (U = unit1 s[K].toNat) := Lib.hid (by
                  rw [← HU.out, drop_one' s K hK0s hK1, unitOf_cons]
                  rintro ⟨_, e2⟩
                  cases e2)
                obtain ⟨c, HC⟩ : ∃ c : Nat, Hid (s[K].toNat = c) := ⟨_, Lib.hid rfl⟩
                rw [HC.out] at HE
                have hcc : (s[K].toNat : Int) = (c : Int) := by rw [HC.out]
                by_cases c1 : c = 100
                · have HF : Hid (U.getD (0, 0) = (86400000, 1)) := Lib.hid (by rw [HE.out, c1]; rfl)
                  subst c1
                  go_wp2_with fail
                  go_meet
                  rw [HF.out]
                  exact ⟨rfl, rfl, rfl⟩
                by_cases c2 : c = 104
                · have HF : Hid (U.getD (0, 0) = (3600000, 1)) := Lib.hid (by rw [HE.out, c2]; rfl)
                  subst c2
                  go_wp2_with fail
                  go_meet
                  rw [HF.out]
                  exact ⟨rfl, rfl, rfl⟩
                by_cases c3 : c = 109
                · have HF : Hid (U.getD (0, 0) = (60000, 1)) := Lib.hid (by rw [HE.out, c3]; rfl)
                  subst c3
                  go_wp2_with fail
                  go_meet
                  rw [HF.out]
                  exact ⟨rfl, rfl, rfl⟩
                by_cases c4 : c = 115
                · have HF : Hid (U.getD (0, 0) = (1000, 1)) := Lib.hid (by rw [HE.out, c4]; rfl)
                  subst c4
                  go_wp2_with fail
                  go_meet
                  rw [HF.out]
                  exact ⟨rfl, rfl, rfl⟩
                have HF : Hid (U.getD (0, 0) = (0, 0)) := Lib.hid (by rw [HE.out]; unfold unit1; rw [if_neg c1, if_neg c2, if_neg c3, if_neg c4]; rfl)
                have d1 : ((c : Int) == 100) = false := by simp; omega
                have d2 : ((c : Int) == 104) = false := by simp; omega
                have d3 : ((c : Int) == 109) = false := by simp; omega
                have d4 : ((c : Int) == 115) = false := by simp; omega
                clear c1 c2 c3 c4
                go_wp2_with fail
                go_meet
                rw [HF.out]
                exact ⟨rfl, rfl, rfl⟩
              · have hKs : ¬ (K : Int) < (s.size : Int) := by omega
                have HF : Hid (U.getD (0, 0) = (0, 0)) := Lib.hid (by rw [← HU.out, List.drop_of_length_le (by rw [size_len]; omega)]; rfl)
                clear hK1 hK0s
                go_wp2_with fail
                go_meet
                rw [HF.out]
                exact ⟨rfl, rfl, rfl⟩
          case rest =>
            obtain ⟨rfl, rfl, hwc⟩ := hcut
            have hwc := hwc.symm
            subst hwc
            rcases U with _ | ⟨sz, u⟩
            · have HF : Hid (refSp s.data.toList = (0, 13)) := Lib.hid (by
                unfold refSp
                rw [if_neg HL.out, HST.out]
                rfl)
              simp only [Option.getD_none]
              go_wp2_with fail
              go_ret2
              exact ⟨ret2_ints' HF.out, Below.refl _ _⟩
            · simp only [Option.getD_some]
              have hub := unitOf_bd HU.out
              simp only [] at hub
              obtain ⟨u1, u2, u3, u4⟩ := hub
              rw [List.length_drop, size_len] at u4
              simp only [Option.bind_some] at HST
              have hz0 : ((sz : Int) == 0) = false := by simp; omega
              have hz1 : ¬ (sz : Int) = 0 := by omega
              have hsI : (0 : Int) < (sz : Int) := by omega
              have hsI2 : (sz : Int) ≤ 86400000 := by omega
              have huI : (u : Int) ≤ 32 := by omega
              have hu0 : (0 : Int) ≤ (u : Int) := by omega
              have hnI : (nn : Int) ≤ 10000000000000 := by omega
              have hn0 : (0 : Int) ≤ (nn : Int) := by omega
              obtain ⟨D, HDD⟩ : ∃ D : Nat, Hid (17592186044416 / sz = D) := ⟨_, Lib.hid rfl⟩
              have hdv : (17592186044416 : Int) / (sz : Int) = (D : Int) := by rw [← HDD.out]; exact (Int.natCast_ediv 17592186044416 sz).symm
              have hD1 : D ≤ 17592186044416 := by rw [← HDD.out]; exact Nat.div_le_self _ _
              have hDI : (D : Int) ≤ 17592186044416 := by omega
              have hD0 : (0 : Int) ≤ (D : Int) := by omega
              rw [HDD.out] at HST
              by_cases hov : D < nn
              · have hovI : (D : Int) < (nn : Int) := by omega
                have HF : Hid (refSp s.data.toList = (0, 13)) := Lib.hid (by
                  unfold refSp
                  rw [if_neg HL.out, HST.out, if_pos hov]
                  rfl)
                clear hov
                go_wp2_with fail
                go_ret2
                exact ⟨ret2_ints' HF.out, Below.refl _ _⟩
              · have hovI : ¬ (D : Int) < (nn : Int) := by omega
                obtain ⟨pr, HPR⟩ : ∃ pr, Hid (nn * sz = pr) := ⟨_, Lib.hid rfl⟩
                have hpr : (nn : Int) * (sz : Int) = (pr : Int) := by rw [← HPR.out]; exact (Int.natCast_mul nn sz).symm
                have hpb : pr ≤ 17592186044416 := by
                  rw [← HPR.out]
                  have h1 : nn * sz ≤ D * sz := Nat.mul_le_mul_right sz (by omega)
                  have h2 : D * sz ≤ 17592186044416 := by rw [← HDD.out]; exact Nat.div_mul_le_self _ _
                  omega
                have hpI : (pr : Int) ≤ 17592186044416 := by omega
                have hp0 : (0 : Int) ≤ (pr : Int) := by omega
                have HRX : Hid (rLoop s.data.toList.length 0 s.data.toList = rLoop g (tot + pr) (s.data.toList.drop (K + u))) := Lib.hid (by
                  rw [HST.out, if_neg hov, HPR.out]
                  rfl)
                clear hov
                go_wp2_with fail
                go_round
                case rel => first | exact ⟨K + u, tot + pr, g, by go_num, by omega, by go_num, by omega, by omega, HRX⟩ | ((repeat apply Exists.intro); exact ⟨⟨K + u, tot + pr, g, by go_num, by omega, by go_num, by omega, by omega, HRX⟩, rfl⟩)
                case measure => simp [intOf]; omega
      · obtain rfl : k = s.size := by omega
        have HE : Hid (rLoop s.data.toList.length 0 s.data.toList = some tot) := Lib.hid (by rw [HR.out, List.drop_of_length_le (by rw [size_len]; exact Nat.le_refl _), rLoop_nil])
        have HRS : Hid (refSp s.data.toList = if tot ≤ 17592186044416 ∧ spanL tot = s.data.toList then ((tot : Int), 0) else (0, 13)) := Lib.hid (by
          unfold refSp
          rw [if_neg HL.out, HE.out])
        clear hks
        by_cases hov : tot ≤ 17592186044416
        · have hovI : ¬ (17592186044416 : Int) < (tot : Int) := by omega
          obtain ⟨tx, HX⟩ : ∃ tx : ByteArray, Hid (tx = ⟨(spanL tot).toArray⟩) := ⟨_, Lib.hid rfl⟩
          have hiff : spanL tot = s.data.toList ↔ tx = s := ⟨fun h => by rw [HX.out]; exact str_ext h, fun h => by rw [← h, HX.out]⟩
          have HCT : Hid (∀ w : World, Calls Tryd.prog 42 #[.int .i64 (tot : Int)] w fun e w' => e = .returned (.string tx) ∧ Below w.heap.size w w') := Lib.hid (by
            intro w
            rw [HX.out]
            exact rSpanText_any tot hov w)
          by_cases hx : tx = s
          · have HF := Lib.hid (HRS.out.trans (if_pos ⟨hov, hiff.2 hx⟩))
            have x1 : (tx.toList == s.toList) = true := by rw [hx]; simp
            have x2 : tx.toList = s.toList := by rw [hx]
            clear hx hov hiff
            go_wp2_with fail
            refine (HCT.out _).mono ?_
            rintro e w2 ⟨rfl, hb2⟩
            have HB2 := Lib.hid hb2
            clear hb2
            go_wp2_with fail
            go_ret2
            exact ⟨ret2_ints' HF.out, HB2.out⟩
          · have HF := Lib.hid (HRS.out.trans (if_neg (fun z => hx (hiff.1 z.2))))
            have x2 : ¬ tx.toList = s.toList := fun z => hx (str_ext (by rw [← toList_data, ← toList_data]; exact z))
            have x1 : (tx.toList == s.toList) = false := by simpa using x2
            clear hx hov hiff
            go_wp2_with fail
            refine (HCT.out _).mono ?_
            rintro e w2 ⟨rfl, hb2⟩
            have HB2 := Lib.hid hb2
            clear hb2
            go_wp2_with fail
            go_ret2
            exact ⟨ret2_ints' HF.out, HB2.out⟩
        · have hovI : (17592186044416 : Int) < (tot : Int) := by omega
          have HF := Lib.hid (HRS.out.trans (if_neg (fun z => hov z.1)))
          clear hov
          go_wp2_with fail
          go_ret2
          exact ⟨ret2_ints' HF.out, Below.refl _ _⟩
  · have hsi : (32 : Int) < (s.size : Int) := by omega
    have HE : Hid (refSp s.data.toList = (0, 5)) := Lib.hid (by unfold refSp; rw [if_pos (by rw [size_len]; omega)])
    go_enter Tryd.func43, Tryd.ntmps43
    go_wp2_with fail
    go_ret2
    exact ⟨ret2_ints' HE.out, Below.refl _ _⟩

end Go.Proofs.YthkkjfofpoifiaaDoor
