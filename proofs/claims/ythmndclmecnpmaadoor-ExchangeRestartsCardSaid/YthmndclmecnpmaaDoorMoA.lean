/- Exchange: contracts of the model's decimal, text, sameItems. -/
import Derived.Test.YthmndclmecnpmaaDoorOxC
import Derived.Test.YthmndclmecnpmaaDoorExK
import Derived.Laws.BytesArg
import Derived.Lib.ItoaNum
import Derived.BigRegion
import Derived.Deep.RegionLaw
namespace Go.Proofs.YthmndclmecnpmaaDoor
open Go.RowKit
attribute [local go_sem ↓] Go.wp_at_zero Go.wp_at_succ

theorem conv1 (x : Nat) (_hx : x < 256) (w : World) :
    (convert 45 9 (.slice (some ⟨w.heap.size, 0, none⟩) 1 1)).run Tryd.prog (w.alloc (.cells #[.int .u8 (x : Int)] 5)) =
      .ok (.string ⟨#[UInt8.ofNat x]⟩) (w.alloc (.cells #[.int .u8 (x : Int)] 5)) := by
  have e : strOfNums [(x : Int)] = ⟨#[UInt8.ofNat x]⟩ := by
    unfold strOfNums
    simp
  rw [← e]
  refine run_convert_bytes_arg (P := Tryd.prog) _ 45 5 Tryd.underlying45 Tryd.underlying5 w.heap.size 0 1 1 [(x : Int)] rfl (fun i hi => ?_) 9 Tryd.underlying9
  rw [World.cell?_alloc_mark, Nat.zero_add]
  have : i = 0 := by omega
  subst this
  rfl
theorem conv1w (x : Nat) (_hx : x < 256) (g : Nat) (w : World) (h : w.cell? ⟨g, 0, none⟩ = some (.int .u8 (x : Int))) :
    (convert 45 9 (.slice (some ⟨g, 0, none⟩) 1 1)).run Tryd.prog w = .ok (.string ⟨#[UInt8.ofNat x]⟩) w := by
  have e : strOfNums [(x : Int)] = ⟨#[UInt8.ofNat x]⟩ := by
    unfold strOfNums
    simp
  rw [← e]
  refine run_convert_bytes_arg (P := Tryd.prog) _ 45 5 Tryd.underlying45 Tryd.underlying5 g 0 1 1 [(x : Int)] rfl (fun i hi => ?_) 9 Tryd.underlying9
  have : i = 0 := by omega
  subst this
  exact h
def digS (u : Nat) : ByteArray := ⟨#[UInt8.ofNat (48 + u)]⟩
theorem digS_size (u : Nat) : (digS u).size = 1 := rfl
theorem conv_small (u : Nat) (h : u < 10) (w : World) :
    (convert 45 9 (.slice (some ⟨w.heap.size, 0, none⟩) 1 1)).run Tryd.prog (w.alloc (.cells #[.int .u8 (48 + (u : Int))] 5)) =
      .ok (.string (digS u)) (w.alloc (.cells #[.int .u8 (48 + (u : Int))] 5)) := conv1 (48 + u) (by omega) w
theorem conv_digit (u : Nat) (w : World) :
    (convert 45 9 (.slice (some ⟨w.heap.size, 0, none⟩) 1 1)).run Tryd.prog (w.alloc (.cells #[.int .u8 (48 + (u : Int) % 10)] 5)) =
      .ok (.string (digS (u % 10))) (w.alloc (.cells #[.int .u8 (48 + (u : Int) % 10)] 5)) := conv1 (48 + u % 10) (by omega) w
theorem dec_sz : ∀ (k n : Nat), n < 10 ^ (k + 1) → (Lib.decDigits n).length ≤ k + 1
  | 0, n, h => by rw [Lib.decDigits_one (by simpa using h)]; simp
  | k + 1, n, h => by
    by_cases h10 : n < 10
    · rw [Lib.decDigits_one h10]; simp
    · rw [Lib.decDigits, dif_neg h10, List.length_append]
      have := dec_sz k (n / 10) (by rw [Nat.pow_succ] at h; omega)
      simp
      omega
def decS (n : Nat) : ByteArray := ⟨(Lib.decDigits n).toArray⟩
theorem decS_size {n : Nat} (h : n ≤ 2000000000000) : (decS n).size ≤ 13 := dec_sz 12 n (by omega)
theorem decS_small {n : Nat} (h : n < 10) : decS n = digS n := by unfold decS digS; rw [Lib.decDigits_one h]
theorem decS_big {n : Nat} (h : ¬ n < 10) : decS n = decS (n / 10) ++ digS (n % 10) := by
  apply str_ext
  unfold decS digS
  rw [Lib.decDigits, dif_neg h]
  simp

set_option maxRecDepth 100000 in
set_option maxHeartbeats 1000000 in
theorem decimal_nat (n : Nat) : n ≤ 2000000000000 → ∀ w : World, Calls Tryd.prog 46 #[.int .i64 (n : Int)] w fun e w' => e = .returned (.string (decS n)) ∧ Only Nobody w w' := by
  induction n using Nat.strongRecOn with
  | _ n ih =>
    intro hn w
    have hn0 : (0 : Int) ≤ (n : Int) := by omega
    have hnI : (n : Int) ≤ 2000000000000 := by omega
    by_cases h10 : n < 10
    · have HE := Lib.hid (decS_small h10)
      have h10i : (n : Int) < 10 := by omega
      have hcv := conv_small n h10
      have hw : IntKind.u8.wrap (48 + (n : Int)) = 48 + (n : Int) := by simp [IntKind.wrap, IntKind.signed, IntKind.bits]; omega
      clear ih h10 hn
      go_enter Tryd.func46, Tryd.ntmps46
      go_wp2_with fail
      go_ret
      exact ⟨ret_str HE.out.symm, by repeat (first | exact Only.refl _ _ | refine Only.drew ?_ | refine Only.alloc ?_ _)⟩
    · have HE := Lib.hid (decS_big h10)
      have h10i : ¬ (n : Int) < 10 := by omega
      have hqz : (decS (n / 10)).size ≤ 13 := decS_size (by omega)
      obtain ⟨q, HQ⟩ : ∃ q, Hid (q = decS (n / 10)) := ⟨_, Lib.hid rfl⟩
      rw [← HQ.out] at HE hqz
      have HI : Hid (∀ w : World, Calls Tryd.prog 46 #[.int .i64 ((n : Int) / 10)] w fun e w' => e = .returned (.string q) ∧ Only Nobody w w') := Lib.hid (fun w => by
        have := ih (n / 10) (by omega) (by omega) w
        rw [HQ.out, show (n : Int) / 10 = ((n / 10 : Nat) : Int) by omega]
        exact this)
      have hcv := conv_digit n
      obtain ⟨p, HP⟩ : ∃ p, Hid (p = digS (n % 10)) := ⟨_, Lib.hid rfl⟩
      rw [← HP.out] at HE hcv
      have hps : p.size = 1 := by rw [HP.out]; rfl
      have HCV : Hid (∀ w1, Only Nobody (w.alloc (.cells #[.int .u8 (48 + (n : Int) % 10)] 5)) w1 → (convert 45 9 (.slice (some ⟨w.heap.size, 0, none⟩) 1 1)).run Tryd.prog w1 = .ok (.string p) w1) := Lib.hid (fun w1 ho => by
        have := conv1w (48 + n % 10) (by omega) w.heap.size w1 ((ho.cell (p := ⟨w.heap.size, 0, none⟩) (by simp) (fun x => x)).trans (by rw [World.cell?_alloc_mark]; rfl))
        rw [HP.out]
        exact this)
      have hcv2 := HCV.out _ (Only.refl _ _).drew
      have hq1 : IntKind.i64.wrap ((n : Int) / 10) = (n : Int) / 10 := by rw [IntKind.wrap_i64]; omega
      have hw0 : IntKind.i64.wrap (48 + (n : Int) % 10) = 48 + (n : Int) % 10 := by rw [IntKind.wrap_i64]; omega
      have hq : (n : Int).tdiv 10 = (n : Int) / 10 := Int.tdiv_eq_ediv_of_nonneg hn0
      have hr : (n : Int).tmod 10 = (n : Int) % 10 := Int.tmod_eq_emod_of_nonneg hn0
      have hm0 : (0 : Int) ≤ (n : Int) % 10 := by omega
      have hm9 : (n : Int) % 10 ≤ 9 := by omega
      have hw : IntKind.u8.wrap (48 + (n : Int) % 10) = 48 + (n : Int) % 10 := by simp [IntKind.wrap, IntKind.signed, IntKind.bits]; omega
      have hsum : ¬ 9223372036854775807 < q.size + 1 := by omega
      clear ih h10 hn
      go_enter Tryd.func46, Tryd.ntmps46
      go_wp2_with fail
      go_region_law (first
        | (go_simp; go_at_call 46; refine (HI.out _).mono ?_; rintro e w1 ⟨rfl, ho1⟩; (first | have hcw := HCV.out w1 ho1 | have hcw := HCV.out w1 (Only.trans ((Only.refl _ _).drew) ho1) | skip); have HO1 := Lib.hid ho1; clear ho1))
      all_goals
        go_wp2_with fail
        go_ret
        refine ⟨ret_str HE.out.symm, ?_⟩
        first
        | exact ((Only.refl _ _).alloc _).drew.trans HO1.out
        | exact ((Only.refl _ _).drew.trans HO1.out).alloc _
        | exact (((Only.refl _ _).alloc _).trans HO1.out)
        | exact (((Only.refl _ _).trans HO1.out).alloc _)

/-- A short text, whatever it is. -/
def Short (w : World) (e : Ending) (w' : World) : Prop := ∃ s : ByteArray, s.size ≤ 20 ∧ e = .returned (.string s) ∧ Only Nobody w w'
set_option maxRecDepth 100000 in
set_option maxHeartbeats 1000000 in
theorem decimal_neg (n : Int) (h1 : -100 ≤ n) (h2 : n < 0) (w : World) : Calls Tryd.prog 46 #[.int .i64 n] w (Short w) := by
  have h10i : n < 10 := by omega
  obtain ⟨x, hx, hw⟩ : ∃ x : Nat, x < 256 ∧ IntKind.u8.wrap (48 + n) = (x : Int) := ⟨(IntKind.u8.wrap (48 + n)).toNat, by simp [IntKind.wrap, IntKind.signed, IntKind.bits]; omega, by simp [IntKind.wrap, IntKind.signed, IntKind.bits]; omega⟩
  obtain ⟨p, HP, hps⟩ : ∃ p : ByteArray, Hid (p = ⟨#[UInt8.ofNat x]⟩) ∧ p.size = 1 := ⟨_, Lib.hid rfl, rfl⟩
  have hcv := conv1 x hx
  rw [← HP.out] at hcv
  clear hx h2
  go_enter Tryd.func46, Tryd.ntmps46
  go_wp2_with fail
  go_ret
  exact ⟨p, by omega, rfl, by repeat (first | exact Only.refl _ _ | refine Only.drew ?_ | refine Only.alloc ?_ _)⟩
theorem decimal_short (n : Int) (h1 : -100 ≤ n) (h2 : n ≤ 100) (w : World) : Calls Tryd.prog 46 #[.int .i64 n] w (Short w) := by
  by_cases h : n < 0
  · exact decimal_neg n h1 h w
  · obtain ⟨m, rfl⟩ : ∃ m : Nat, n = (m : Int) := ⟨n.toNat, by omega⟩
    exact (decimal_nat m (by omega) w).mono fun e w' ⟨h1, h2⟩ => ⟨decS m, by have := decS_size (n := m) (by omega); omega, h1, h2⟩
set_option maxRecDepth 100000 in
set_option maxHeartbeats 1000000 in
theorem text_any (n : Int) (w : World) : Calls Tryd.prog 17 #[.int .i64 n] w fun e w' => ∃ s : ByteArray, s.size ≤ 30 ∧ e = .returned (.string s) ∧ Only Nobody w w' := by
  obtain ⟨m, HM⟩ : ∃ m, Hid ((wrap64 (n * n)).tmod 97 = m) := ⟨_, Lib.hid rfl⟩
  have hm1 : -100 ≤ m ∧ m ≤ 100 := by
    rw [← HM.out]
    have h1 := Int.tmod_lt_of_pos (wrap64 (n * n)) (show (0 : Int) < 97 by omega)
    have h2 := Int.lt_tmod_of_pos (wrap64 (n * n)) (show (0 : Int) < 97 by omega)
    omega
  have HC : Hid (∀ w, Calls Tryd.prog 46 #[.int .i64 m] w (Short w)) := Lib.hid (fun w => decimal_short m hm1.1 hm1.2 w)
  clear hm1
  go_enter Tryd.func17, Tryd.ntmps17
  go_wp2_with fail
  rw [HM.out]
  refine (HC.out _).mono ?_
  rintro e w1 ⟨s, hs, rfl, ho1⟩
  have hz : ¬ 9223372036854775807 < 1 + s.size := by omega
  have HO1 := Lib.hid ho1
  have HS := Lib.hid hs
  clear ho1 hs
  go_wp2_with fail
  go_ret
  exact ⟨_, by rw [ByteArray.size_append]; have := HS.out; show 1 + s.size ≤ 30; omega, rfl, HO1.out⟩

/-! sameItems. -/
theorem itsC_get : ∀ (l : List It) (i t : Nat) (y : It), l[i]? = some y → t < 2 → (itsC l)[i * 2 + t]? = y.cells[t]?
  | [], i, t, y, h, _ => by simp at h
  | z :: l, 0, t, y, h, ht => by
    simp only [List.getElem?_cons_zero, Option.some.injEq] at h
    subst h
    have e : itsC (z :: l) = z.cells ++ itsC l := rfl
    rw [e, Nat.zero_mul, Nat.zero_add, List.getElem?_append_left (by show t < 2; exact ht)]
  | z :: l, i + 1, t, y, h, ht => by
    have e : itsC (z :: l) = z.cells ++ itsC l := rfl
    have hl : z.cells.length = 2 := rfl
    rw [e, List.getElem?_append_right (by rw [hl]; omega), hl, show (i + 1) * 2 + t - 2 = i * 2 + t by omega]
    exact itsC_get l i t y (by simpa using h) ht
set_option maxRecDepth 100000 in
set_option maxHeartbeats 1000000 in
theorem sameItems_yes (l : List It) (v v2 : Value) (b1 b2 : Nat) (w : World) (h1 : w.ownsRow b1 36 2 v l.length (itsC l)) (h2 : w.ownsRow b2 36 2 v2 l.length (itsC l)) (hl : l.length ≤ 5000) : Calls Tryd.prog 30 #[v, v2] w fun e w' => e = .returned (.bool true) ∧ Only Nobody w w' := by
  obtain ⟨N, HN⟩ : ∃ N, Hid (l.length = N) := ⟨_, Lib.hid rfl⟩
  rw [HN.out] at h1 h2 hl
  have H1 := Lib.hid (RowAt.of_own h1)
  have H2 := Lib.hid (RowAt.of_own h2)
  obtain ⟨A, c, rfl⟩ := own_form h1
  obtain ⟨A2, c2, rfl⟩ := own_form h2
  clear h1 h2
  go_enter Tryd.func30, Tryd.ntmps30
  go_wp2_with fail
  go_loopw [5] (fun i wx => ∃ k : Nat, i = .int .i64 (k : Int) ∧ k ≤ N ∧ Hid (Only Nobody w wx)) (fun i _ => N - (intOf i).toNat)
  case atStart => exact ⟨0, rfl, Nat.zero_le _, Lib.hid (Only.refl _ _)⟩
  case round =>
    obtain ⟨k, rfl, hk, HON⟩ := hrel
    by_cases hkm : k < N
    · have hkI : (k : Int) < (N : Int) := by omega
      have hk0 : (0 : Int) ≤ (k : Int) := by omega
      obtain ⟨y, hy⟩ : ∃ y, l[k]? = some y := ⟨_, List.getElem?_eq_getElem (by rw [HN.out]; omega)⟩
      obtain ⟨g, o, c', hv, _, hgl, _, hcc, _⟩ := H1.out.cell (by omega)
      injection hv with hv1 hv2 hv3
      subst hv1; subst hv3
      obtain ⟨g2, o2, c2', hv2, _, hgl2, _, hcc2, _⟩ := H2.out.cell (by omega)
      injection hv2 with hv1 hv2 hv3
      subst hv1; subst hv3
      have c0 : wr.cell? ⟨g, o + k * 2, none⟩ = some (.int .i64 y.n) := (HON.out.cell (p := ⟨g, _, none⟩) hgl (fun x => x)).trans (hcc (k * 2) _ ((itsC_get _ k 0 y hy (by omega)).trans rfl))
      have c1 : wr.cell? ⟨g, o + k * 2 + 1, none⟩ = some (.string y.t) := (HON.out.cell (p := ⟨g, _, none⟩) hgl (fun x => x)).trans (hcc (k * 2 + 1) _ ((itsC_get _ k 1 y hy (by omega)).trans rfl))
      have d0 : wr.cell? ⟨g2, o2 + k * 2, none⟩ = some (.int .i64 y.n) := (HON.out.cell (p := ⟨g2, _, none⟩) hgl2 (fun x => x)).trans (hcc2 (k * 2) _ ((itsC_get _ k 0 y hy (by omega)).trans rfl))
      have d1 : wr.cell? ⟨g2, o2 + k * 2 + 1, none⟩ = some (.string y.t) := (HON.out.cell (p := ⟨g2, _, none⟩) hgl2 (fun x => x)).trans (hcc2 (k * 2 + 1) _ ((itsC_get _ k 1 y hy (by omega)).trans rfl))
      clear hcc hcc2 hy
      go_wp2_with fail
      go_region_held3 (fun w' => w'.cell? ⟨g, o + k * 2, none⟩ = some (.int .i64 y.n) ∧ w'.cell? ⟨g, o + k * 2 + 1, none⟩ = some (.string y.t) ∧ w'.cell? ⟨g2, o2 + k * 2, none⟩ = some (.int .i64 y.n) ∧ w'.cell? ⟨g2, o2 + k * 2 + 1, none⟩ = some (.string y.t)) (exact ⟨c0, c1, d0, d1⟩) (fail)
      all_goals
        go_wp2_with fail
        go_roundw
        case rel =>
          have HON3 : Hid (Only Nobody w wr.drew) := Lib.hid HON.out.drew
          first
          | exact ⟨k + 1, by go_num, by omega, HON3⟩
          | ((repeat apply Exists.intro); exact ⟨⟨k + 1, by go_num, by omega, HON3⟩, rfl⟩)
        case measure => simp [intOf]; omega
    · obtain rfl : k = N := by omega
      go_wp2_with fail
      go_ret
      exact ⟨rfl, HON.out⟩
end Go.Proofs.YthmndclmecnpmaaDoor
