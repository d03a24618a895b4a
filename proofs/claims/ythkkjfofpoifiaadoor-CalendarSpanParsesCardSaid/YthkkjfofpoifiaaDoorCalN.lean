/- Calendar: contracts of number (the program's) and of form, number (the reference's). -/
import Derived.Test.YthkkjfofpoifiaaDoorCalK
import Derived.Test.YthkkjfofpoifiaaDoorCalG
import Derived.Test.YthkkjfofpoifiaaDoorWords
import Derived.Deep.QuietTactic
import Derived.BigQuiet
import Derived.Deep.Draws
import Derived.Lib.Strings
namespace Go.Proofs.YthkkjfofpoifiaaDoor
open Go.RowKit

theorem size_len (s : ByteArray) : s.data.toList.length = s.size := by simp
theorem take_snoc' (s : ByteArray) (k : Nat) (h : k < s.size) : s.data.toList.take (k + 1) = s.data.toList.take k ++ [s[k]] := by
  rw [List.take_succ_eq_append_getElem (by simpa using h)]; rfl
theorem numL_step (s : ByteArray) (k : Nat) (h : k < s.size) (hd : isDg s[k] = true) : (numL (s.data.toList.take (k + 1)) : Int) = 10 * (numL (s.data.toList.take k) : Int) + ((s[k].toNat : Int) - 48) := by
  rw [take_snoc' s k h, numL_snoc]
  unfold isDg at hd
  simp only [Bool.and_eq_true, decide_eq_true_eq] at hd
  omega
theorem numL_bd (l : List UInt8) (k : Nat) (hk : k ≤ 9) (h : ∀ c ∈ l.take k, isDg c = true) : numL (l.take k) < 1000000000 := by
  have h1 := numL_lt (l.take k).length (l.take k) rfl h
  have h2 : (l.take k).length ≤ 9 := by rw [List.length_take]; omega
  have h3 : 10 ^ (l.take k).length ≤ 10 ^ 9 := Nat.pow_le_pow_right (by omega) h2
  have h9 : (10 : Nat) ^ 9 = 1000000000 := rfl
  omega

theorem ext_drop (s : ByteArray) (k : Nat) : (s.extract k s.size).data.toList = s.data.toList.drop k := by
  rw [Lib.extract_data, List.take_of_length_le]
  rw [List.length_drop, size_len]
  exact Nat.le_refl _
theorem below_drewN {w0 w : World} {B : Nat} (h : Below B w0 w) (n : Nat) : Below B w0 (w.drewN n) := ⟨h.os, h.tape, h.output, h.size, h.block⟩

theorem ret_nat {a b : Nat} (h : a = b) : Ending.returned (.int .i64 (a : Int)) = Ending.returned (.int .i64 (b : Int)) := by rw [h]
/-- What number returns. -/
def NumPost (s : ByteArray) (k : Nat) (w : World) (e : Ending) (w' : World) : Prop :=
  ((numOK s.data.toList k = true ∧ ∃ s' : ByteArray, e = .returned (.tuple #[.int .i64 (numL (s.data.toList.take k) : Int), .string s', .bool true]) ∧ s'.data.toList = s.data.toList.drop k) ∨
    (numOK s.data.toList k = false ∧ e = .returned (.tuple #[.int .i64 0, .string s, .bool false]))) ∧ Below w.heap.size w w'
set_option maxRecDepth 100000 in
set_option maxHeartbeats 2000000 in
theorem number_any (s : ByteArray) (k : Nat) (hk : k ≤ 9) (hs : s.size ≤ 9223372036854775807) (w : World) : Calls Tryd.prog 53 #[.string s, .int .i64 (k : Int)] w (NumPost s k w) := by
  by_cases hks : s.size < k
  · have hi : (s.size : Int) < (k : Int) := by omega
    have HF : Hid (numOK s.data.toList k = false) := Lib.hid (by
      cases h : numOK s.data.toList k
      · rfl
      · have := (numOK_iff.1 h).1
        rw [size_len] at this
        omega)
    go_enter Tryd.func53, Tryd.ntmps53
    go_wp2_with fail
    go_ret3
    exact ⟨.inr ⟨HF.out, rfl⟩, Below.refl _ _⟩
  · have hi : ¬ (s.size : Int) < (k : Int) := by omega
    have hki : (k : Int) ≤ (s.size : Int) := by omega
    have hk9 : (k : Int) ≤ 9 := by omega
    have hk0 : (0 : Int) ≤ (k : Int) := by omega
    go_enter Tryd.func53, Tryd.ntmps53
    go_wp2_with fail
    go_loop [4, 14] (fun n i => ∃ j : Nat, j ≤ k ∧ i = .int .i64 (j : Int) ∧ n = .int .i64 (numL (s.data.toList.take j) : Int) ∧ Hid (∀ c ∈ s.data.toList.take j, isDg c = true)) (fun _ i => k - (intOf i).toNat)
    case atStart => exact ⟨0, Nat.zero_le _, rfl, rfl, Lib.hid (by simp)⟩
    case round =>
      obtain ⟨j, hj, rfl, rfl, HD⟩ := hrel
      have hnb := numL_bd s.data.toList j (by omega) HD.out
      by_cases hjk : j < k
      · have hjI : (j : Int) < (k : Int) := by omega
        have hj0 : (0 : Int) ≤ (j : Int) := by omega
        have hjs : j < s.size := by omega
        have hjsI : (j : Int) < (s.size : Int) := by omega
        by_cases hd : isDg s[j] = true
        · have HST := Lib.hid (numL_step s j hjs hd)
          have HD' : Hid (∀ c ∈ s.data.toList.take (j + 1), isDg c = true) := Lib.hid (by
            rw [take_snoc' s j hjs]
            intro c hc
            rcases List.mem_append.1 hc with hc | hc
            · exact HD.out c hc
            · rw [List.mem_singleton.1 hc]; exact hd)
          have h48 : (48 : Int) ≤ (s[j].toNat : Int) := by unfold isDg at hd; simp only [Bool.and_eq_true, decide_eq_true_eq] at hd; omega
          have h57 : (s[j].toNat : Int) ≤ 57 := by unfold isDg at hd; simp only [Bool.and_eq_true, decide_eq_true_eq] at hd; omega
          clear hd
          go_wp2_with fail
          refine (in_yes _ _ _ h48 h57 _).mono ?_
          rintro e w' ⟨rfl, rfl⟩
          go_wp2_with fail
          go_round
          case rel => exact ⟨j + 1, by omega, by go_num, by rw [HST.out], HD'⟩
          case measure => simp [intOf]; omega
        · have HNO : Hid (numOK s.data.toList k = false) := Lib.hid (by
            cases h : numOK s.data.toList k
            · rfl
            · refine absurd ((numOK_iff.1 h).2 s[j] ?_) hd
              have hl : j < (s.data.toList.take k).length := by rw [List.length_take, size_len]; omega
              have : (s.data.toList.take k)[j] = s[j] := by rw [List.getElem_take]; rfl
              rw [← this]
              exact List.getElem_mem hl)
          have hn : ¬ ((48 : Int) ≤ (s[j].toNat : Int) ∧ (s[j].toNat : Int) ≤ 57) := by
            intro x
            apply hd
            unfold isDg
            simp only [Bool.and_eq_true, decide_eq_true_eq]
            omega
          have HN := Lib.hid hn
          have h256 : (s[j].toNat : Int) < 256 := by have := (s[j]).toNat_lt; omega
          have h00 : (0 : Int) ≤ (s[j].toNat : Int) := by omega
          clear hd hn
          go_wp2_with fail
          (with_reducible refine (in_no _ _ _ HN.out _).mono ?_)
          rintro e w' ⟨rfl, rfl⟩
          go_wp2_with fail
          go_ret3
          exact ⟨.inr ⟨HNO.out, rfl⟩, Below.refl _ _⟩
      · obtain rfl : k = j := by omega
        have HOK : Hid (numOK s.data.toList k = true) := Lib.hid (numOK_iff.2 ⟨by rw [size_len]; omega, HD.out⟩)
        go_wp2_with fail
        go_quiet (fail)
        go_wp2_with fail
        go_ret3
        exact ⟨.inl ⟨HOK.out, s.extract k s.size, rfl, ext_drop s k⟩, below_drewN (Below.refl _ _) _⟩

set_option maxRecDepth 100000 in
set_option maxHeartbeats 1000000 in
theorem rNumber_any (s : ByteArray) (hs : s.size ≤ 9) (hd : ∀ c ∈ s.data.toList, isDg c = true) (w : World) : Calls Tryd.prog 51 #[.string s] w fun e w' => e = .returned (.int .i64 (numL s.data.toList : Int)) ∧ w = w' := by
  have HD := Lib.hid hd
  clear hd
  go_enter Tryd.func51, Tryd.ntmps51
  go_wp2_with fail
  go_loop [3, 4] (fun n i => ∃ j : Nat, j ≤ s.size ∧ i = .int .i64 (j : Int) ∧ n = .int .i64 (numL (s.data.toList.take j) : Int)) (fun _ i => s.size - (intOf i).toNat)
  case atStart => exact ⟨0, Nat.zero_le _, rfl, rfl⟩
  case round =>
    obtain ⟨j, hj, rfl, rfl⟩ := hrel
    have hnb := numL_bd s.data.toList j (by omega) (fun c hc => HD.out c (List.mem_of_mem_take hc))
    by_cases hjs : j < s.size
    · have hjI : (j : Int) < (s.size : Int) := by omega
      have hj0 : (0 : Int) ≤ (j : Int) := by omega
      have hd : isDg s[j] = true := HD.out _ (by
        have : s.data.toList[j]'(by rw [size_len]; exact hjs) = s[j] := rfl
        rw [← this]
        exact List.getElem_mem _)
      have HST := Lib.hid (numL_step s j hjs hd)
      have h48 : (48 : Int) ≤ (s[j].toNat : Int) := by unfold isDg at hd; simp only [Bool.and_eq_true, decide_eq_true_eq] at hd; omega
      have h57 : (s[j].toNat : Int) ≤ 57 := by unfold isDg at hd; simp only [Bool.and_eq_true, decide_eq_true_eq] at hd; omega
      clear hd
      go_wp2_with fail
      go_round
      case rel => exact ⟨j + 1, by omega, by go_num, by rw [HST.out]⟩
      case measure => simp [intOf]; omega
    · obtain rfl : j = s.size := by omega
      go_wp2_with fail
      go_ret
      exact ⟨ret_nat (by rw [List.take_of_length_le (by rw [size_len]; exact Nat.le_refl _)]), rfl⟩

/-! The form of a text. -/
theorem formB_iff : ∀ (l ps : List UInt8), l.length = ps.length → (formB l ps = true ↔ ∀ i (h : i < l.length) (h' : i < ps.length), chOK ps[i] l[i] = true)
  | [], [], _ => by simp [formB]
  | [], _ :: _, h => by simp at h
  | _ :: _, [], h => by simp at h
  | c :: l, p :: ps, h => by
    rw [formB, Bool.and_eq_true, formB_iff l ps (by simpa using h)]
    constructor
    · rintro ⟨h1, h2⟩ i hi hi'
      rcases i with _ | i
      · exact h1
      · exact h2 i (by simpa using hi) (by simpa using hi')
    · intro h1
      exact ⟨h1 0 (by simp) (by simp), fun i hi hi' => h1 (i + 1) (by simpa using hi) (by simpa using hi')⟩
/-- The first places have the form. -/
def FormTo (s p : ByteArray) (j : Nat) : Prop := ∀ i (h : i < s.size) (h' : i < p.size), i < j → chOK p[i] s[i] = true
theorem form_done (s p : ByteArray) (hsz : s.size = p.size) (h : FormTo s p s.size) : formB s.data.toList p.data.toList = true := by
  rw [formB_iff _ _ (by rw [size_len, size_len, hsz])]
  intro i hi hi'
  rw [size_len] at hi hi'
  exact h i hi hi' hi
theorem form_bad (s p : ByteArray) (hsz : s.size = p.size) (j : Nat) (hj : j < s.size) (hj' : j < p.size) (h : chOK p[j] s[j] = false) : formB s.data.toList p.data.toList = false := by
  cases hf : formB s.data.toList p.data.toList
  · rfl
  · rw [formB_iff _ _ (by rw [size_len, size_len, hsz])] at hf
    have := hf j (by rw [size_len]; exact hj) (by rw [size_len]; exact hj')
    exact absurd this (by show ¬ chOK p[j] s[j] = true; rw [h]; simp)
theorem FormTo.next {s p : ByteArray} {j : Nat} (h : FormTo s p j) (hj : j < s.size) (hj' : j < p.size) (hc : chOK p[j] s[j] = true) : FormTo s p (j + 1) := by
  intro i hi hi' hij
  by_cases e : i = j
  · subst e; exact hc
  · exact h i hi hi' (by omega)

set_option maxRecDepth 100000 in
set_option maxHeartbeats 4000000 in
theorem form_any (s p : ByteArray) (hp : p.size ≤ 100) (w : World) : Calls Tryd.prog 50 #[.string s, .string p] w fun e w' => e = .returned (.bool (formB s.data.toList p.data.toList)) ∧ Below w.heap.size w w' := by
  by_cases hsz : s.size = p.size
  · have HSZ := Lib.hid hsz
    have hsp : s.size ≤ 100 := by omega
    have hne : ((s.size : Int) != (p.size : Int)) = false := by simp; omega
    clear hsz
    go_enter Tryd.func50, Tryd.ntmps50
    go_wp2_with fail
    go_loopw [5] (fun i wx => ∃ j : Nat, i = .int .i64 (j : Int) ∧ j ≤ s.size ∧ Hid (FormTo s p j) ∧ Hid (Below w.heap.size w wx)) (fun i _ => s.size - (intOf i).toNat)
    case atStart => exact ⟨0, rfl, Nat.zero_le _, Lib.hid (fun i _ _ h => absurd h (by omega)), Lib.hid (Below.refl _ _)⟩
    case round =>
      obtain ⟨j, rfl, hj, HF, HB⟩ := hrel
      by_cases hjs : j < s.size
      · have hjp : j < p.size := by have := HSZ.out; omega
        have hjI : (j : Int) < (s.size : Int) := by omega
        have hjP : (j : Int) < (p.size : Int) := by omega
        have hj0 : (0 : Int) ≤ (j : Int) := by omega
        have HNX : Hid (chOK p[j] s[j] = true → Hid (FormTo s p (j + 1))) := Lib.hid fun h => Lib.hid (HF.out.next hjs hjp h)
        have HBAD : Hid (chOK p[j] s[j] = false → false = formB s.data.toList p.data.toList) := Lib.hid fun h => (form_bad s p HSZ.out j hjs hjp h).symm
        have hc256 : (s[j].toNat : Int) < 256 := by have := (s[j]).toNat_lt; omega
        have hc0 : (0 : Int) ≤ (s[j].toNat : Int) := by omega
        have hq256 : (p[j].toNat : Int) < 256 := by have := (p[j]).toNat_lt; omega
        have hq0 : (0 : Int) ≤ (p[j].toNat : Int) := by omega
        by_cases hq : p[j].toNat = 48
        · have HQ : Hid (p[j] = 48) := Lib.hid (UInt8.toNat_inj.1 hq)
          have b1 : ((p[j].toNat : Int) == 48) = true := by simp; omega
          have b2 : ((p[j].toNat : Int) != 48) = false := by simp; omega
          clear hq
          by_cases h1 : s[j].toNat < 48
          · have b3 : (s[j].toNat : Int) < 48 := by omega
            have HD : Hid (chOK p[j] s[j] = false) := Lib.hid (by unfold chOK isDg; rw [if_pos HQ.out]; simp; omega)
            clear h1
            go_wp2_with fail
            go_quiet (fail)
            go_wp2_with fail
            go_ret
            exact ⟨ret_bool (HBAD.out HD.out), below_drewN HB.out _⟩
          · by_cases h2 : 57 < s[j].toNat
            · have b3 : ¬ (s[j].toNat : Int) < 48 := by omega
              have b3' : decide ((s[j].toNat : Int) < 48) = false := by simp; omega
              have b4 : (57 : Int) < (s[j].toNat : Int) := by omega
              have HD : Hid (chOK p[j] s[j] = false) := Lib.hid (by unfold chOK isDg; rw [if_pos HQ.out]; simp; omega)
              clear h1 h2
              go_wp2_with fail
              go_quiet (fail)
              go_wp2_with fail
              go_ret
              exact ⟨ret_bool (HBAD.out HD.out), below_drewN HB.out _⟩
            · have b3 : ¬ (s[j].toNat : Int) < 48 := by omega
              have b3' : decide ((s[j].toNat : Int) < 48) = false := by simp; omega
              have b4 : ¬ (57 : Int) < (s[j].toNat : Int) := by omega
              have b4' : decide ((57 : Int) < (s[j].toNat : Int)) = false := by simp; omega
              have HD : Hid (chOK p[j] s[j] = true) := Lib.hid (by unfold chOK isDg; rw [if_pos HQ.out]; simp; omega)
              clear h1 h2
              go_wp2_with fail
              go_quiet (fail)
              go_wp2_with fail
              go_roundw
              case rel => exact ⟨j + 1, by go_num, by omega, HNX.out HD.out, Lib.hid (below_drewN HB.out _)⟩
              case measure => simp [intOf]; omega
        · have HQ : Hid (¬ p[j] = 48) := Lib.hid (fun e => hq (by rw [e]; rfl))
          have b1 : ((p[j].toNat : Int) == 48) = false := by simp; omega
          have b2 : ((p[j].toNat : Int) != 48) = true := by simp; omega
          clear hq
          by_cases h1 : s[j].toNat = p[j].toNat
          · have b3 : ((s[j].toNat : Int) != (p[j].toNat : Int)) = false := by simp; omega
            have HD : Hid (chOK p[j] s[j] = true) := Lib.hid (by unfold chOK; rw [if_neg HQ.out]; simp; exact UInt8.toNat_inj.1 h1)
            clear h1
            go_wp2_with fail
            go_quiet (fail)
            go_wp2_with fail
            go_roundw
            case rel => exact ⟨j + 1, by go_num, by omega, HNX.out HD.out, Lib.hid (below_drewN HB.out _)⟩
            case measure => simp [intOf]; omega
          · have b3 : ((s[j].toNat : Int) != (p[j].toNat : Int)) = true := by simp; omega
            have HD : Hid (chOK p[j] s[j] = false) := Lib.hid (by unfold chOK; rw [if_neg HQ.out]; simp; intro e; exact h1 (by rw [e]))
            clear h1
            go_wp2_with fail
            go_quiet (fail)
            go_wp2_with fail
            go_ret
            exact ⟨ret_bool (HBAD.out HD.out), below_drewN HB.out _⟩
      · obtain rfl : j = s.size := by omega
        have HDN := Lib.hid (form_done s p HSZ.out HF.out)
        go_wp2_with fail
        go_ret
        exact ⟨ret_bool HDN.out.symm, HB.out⟩
  · have HSZ : Hid (formB s.data.toList p.data.toList = false) := Lib.hid (by
      cases hf : formB s.data.toList p.data.toList
      · rfl
      · have := formB_len hf
        rw [size_len, size_len] at this
        exact absurd this hsz)
    have hne : ((s.size : Int) != (p.size : Int)) = true := by simp; omega
    clear hsz
    go_enter Tryd.func50, Tryd.ntmps50
    go_wp2_with fail
    go_ret
    exact ⟨ret_bool HSZ.out.symm, Below.refl _ _⟩

end Go.Proofs.YthkkjfofpoifiaaDoor
