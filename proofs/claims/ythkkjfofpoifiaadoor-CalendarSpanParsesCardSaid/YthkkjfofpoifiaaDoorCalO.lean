/- Calendar: contracts of Parse, the program's and the reference's. -/
import Derived.Test.YthkkjfofpoifiaaDoorCalM
namespace Go.Proofs.YthkkjfofpoifiaaDoor
open Go.RowKit
attribute [local go_sem ↓] Go.wp_at_zero Go.wp_at_succ

theorem addr0 (g j : Nat) : (⟨g, 0, none⟩ : Addr).add j = ⟨g, j, none⟩ := by unfold Addr.add; split <;> simp_all
theorem ret2_ints {a b : Int} {r : Int × Int} (h : r = (a, b)) : Ending.returned (.tuple #[.int .i64 a, .int .i64 b]) = Ending.returned (.tuple #[.int .i64 r.1, .int .i64 r.2]) := by rw [h]
def ms3 : List (ByteArray × Nat) := [(⟨#[]⟩, 4), (⟨#[45]⟩, 2), (⟨#[45]⟩, 2)]
theorem marks_ms3 : marksL ms3 = marks3 := rfl
theorem empty_list {s : ByteArray} (h : s.data.toList = []) : s.toList.isEmpty = true ∧ s.toList = [] := by
  rw [toList_data, h]; exact ⟨rfl, rfl⟩
theorem nonempty_list {s : ByteArray} (h : ¬ s.data.toList = []) : s.toList.isEmpty = false ∧ ¬ s.toList = [] := by
  rw [toList_data]
  exact ⟨by cases e : s.data.toList with
    | nil => exact absurd e h
    | cons a l => rfl, h⟩

theorem calP_bad {l : List UInt8} (h : parseN marks3 l = none) : calP l = (0, 13) := by
  unfold calP
  rw [if_neg]
  intro hf
  rw [form3] at hf
  rw [parse3, if_pos hf.1] at h
  cases h
theorem calP_rest {l rest : List UInt8} {ns : List Nat} (h : parseN marks3 l = some (ns, rest)) (hr : ¬ rest = []) : calP l = (0, 13) := by
  unfold calP
  rw [if_neg]
  intro hf
  rw [form3] at hf
  rw [parse3, if_pos hf.1, Option.some.injEq, Prod.mk.injEq] at h
  exact hr (by rw [← h.2]; exact hf.2)
theorem calP_ok {l rest : List UInt8} {ns : List Nat} (h : parseN marks3 l = some (ns, rest)) (hr : rest = []) : formB l pat3 = true ∧ ns = nums3 l := by
  rw [parse3] at h
  split at h
  · rename_i hc
    rw [Option.some.injEq, Prod.mk.injEq] at h
    exact ⟨by rw [form3]; exact ⟨hc, by rw [h.2]; exact hr⟩, h.1.symm⟩
  · cases h
theorem date_iff (y m d : Nat) : Date y m d ↔ (1 ≤ y ∧ y ≤ 9999 ∧ 1 ≤ m ∧ m ≤ 12 ∧ 1 ≤ d ∧ (d : Int) ≤ mdays y m) :=
  ⟨fun h => ⟨by have := h.y1; omega, by have := h.y2; omega, by have := h.m1; omega, by have := h.m2; omega, by have := h.d1; omega, h.d2⟩, fun h => ⟨by omega, by omega, by omega, by omega, by omega, h.2.2.2.2.2⟩⟩
theorem calP_yes {l : List UInt8} (hf : formB l pat3 = true) (h : Date (numL (l.take 4)) (numL ((l.drop 5).take 2)) (numL ((l.drop 8).take 2))) : calP l = (dnum (numL (l.take 4)) (numL ((l.drop 5).take 2)) (numL ((l.drop 8).take 2)), 0) := by
  unfold calP
  rw [if_pos hf, if_pos ((date_iff _ _ _).1 h)]
theorem calP_no {l : List UInt8} (hf : formB l pat3 = true) (h : ¬ Date (numL (l.take 4)) (numL ((l.drop 5).take 2)) (numL ((l.drop 8).take 2))) : calP l = (0, 17) := by
  unfold calP
  rw [if_pos hf, if_neg (fun x => h ((date_iff _ _ _).2 x))]

theorem ms3_cells (W : World) (gm gd : Nat) (hm : Blk W gm 9 #[.string ⟨#[]⟩, .string ⟨#[45]⟩, .string ⟨#[45]⟩]) (hd : Blk W gd 3 #[.int .i64 4, .int .i64 2, .int .i64 2]) :
    ∀ i x, ms3[i]? = some x → W.cell? ⟨gm, i, none⟩ = some (.string x.1) ∧ W.cell? ⟨gd, i, none⟩ = some (.int .i64 (x.2 : Int)) := by
  intro i x hx
  rw [hm.cell, hd.cell]
  rcases i with _ | _ | _ | i
  · simp [ms3] at hx; subst hx; exact ⟨rfl, rfl⟩
  · simp [ms3] at hx; subst hx; exact ⟨rfl, rfl⟩
  · simp [ms3] at hx; subst hx; exact ⟨rfl, rfl⟩
  · simp [ms3] at hx

set_option maxRecDepth 100000 in
set_option maxHeartbeats 2000000 in
theorem Parse_any (s : ByteArray) (hs : s.size ≤ 9223372036854775807) (w : World) : Calls Tryd.prog 31 #[.string s] w fun e w' => e = .returned (.tuple #[.int .i64 (calP s.data.toList).1, .int .i64 (calP s.data.toList).2]) ∧ Below w.heap.size w w' := by
  have HM : Hid (Blk ((w.alloc (.cells #[.string ⟨#[]⟩, .string ⟨#[45]⟩, .string ⟨#[45]⟩] 9)).alloc (.cells #[.int .i64 4, .int .i64 2, .int .i64 2] 3)) w.heap.size 9 #[.string ⟨#[]⟩, .string ⟨#[45]⟩, .string ⟨#[45]⟩]) := Lib.hid ((Blk.new w _ _).alloc _)
  have HD : Hid (Blk ((w.alloc (.cells #[.string ⟨#[]⟩, .string ⟨#[45]⟩, .string ⟨#[45]⟩] 9)).alloc (.cells #[.int .i64 4, .int .i64 2, .int .i64 2] 3)) (w.heap.size + 1) 3 #[.int .i64 4, .int .i64 2, .int .i64 2]) := Lib.hid (by
    have := Blk.new (w.alloc (.cells #[.string ⟨#[]⟩, .string ⟨#[45]⟩, .string ⟨#[45]⟩] 9)) 3 #[.int .i64 4, .int .i64 2, .int .i64 2]
    simpa using this)
  have HB0 : Hid (Below w.heap.size w ((w.alloc (.cells #[.string ⟨#[]⟩, .string ⟨#[45]⟩, .string ⟨#[45]⟩] 9)).alloc (.cells #[.int .i64 4, .int .i64 2, .int .i64 2] 3))) := Lib.hid (((Below.refl _ _).alloc (Nat.le_refl _) _).alloc (by simp) _)
  go_enter Tryd.func31, Tryd.ntmps31
  go_wp2_with fail
  refine (numbers_any s ms3 3 w.heap.size (w.heap.size + 1) _ hs rfl (by omega) (by intro x hx; simp [ms3] at hx; rcases hx with rfl | rfl | rfl <;> simp) (by simp; omega) (by simp) (ms3_cells _ _ _ HM.out HD.out)).mono ?_
  rw [marks_ms3]
  rintro e w1 ⟨(⟨hn, rfl⟩ | ⟨ns, rest, v, s', hn, rfl, hr, hv⟩), hb1⟩
  · have HB1 := Lib.hid (below_trans HB0.out hb1)
    have HF := Lib.hid (calP_bad hn)
    clear hb1 hn HM HD
    go_wp2_with fail
    go_ret2
    exact ⟨ret2_ints HF.out, HB1.out⟩
  · have HB1 := Lib.hid (below_trans HB0.out hb1)
    by_cases hre : rest = []
    · have hf := calP_ok hn hre
      have HF := Lib.hid hf.1
      have HNS := Lib.hid hf.2
      rw [hre] at hr
      obtain ⟨hr1, hr2⟩ := empty_list hr
      have hrb : (s'.toList == []) = true := by rw [hr2]; rfl
      rw [hf.2] at hv
      obtain ⟨g, cap, rfl, _, hgl⟩ := hv.form (Nat.zero_lt_succ _)
      have hcells := hv.cells (g := g) rfl
      have q0 := hcells 0 _ rfl
      have q1 := hcells 1 _ rfl
      have q2 := hcells 2 _ rfl
      rw [addr0] at q0 q1 q2
      have hcap : 3 ≤ cap := by
        rcases hv.2 with ⟨h1, _⟩ | ⟨g', cap', cur, h1, _, _, hnc, _⟩
        · cases h1
        · injection h1 with _ _ h5
          have : (nums3 s.data.toList).length = 3 := rfl
          omega
      have hcI : (3 : Int) ≤ (cap : Int) := by omega
      have hl3 : (nums3 s.data.toList).length = 3 := rfl
      rw [hl3]
      clear hv hcells hn hf hb1 HM HD hre hr hr2
      by_cases hD : Date (numL (s.data.toList.take 4)) (numL ((s.data.toList.drop 5).take 2)) (numL ((s.data.toList.drop 8).take 2))
      · have HDD := Lib.hid hD
        have HR := Lib.hid (calP_yes HF.out hD)
        clear hD hl3
        generalize numL (s.data.toList.take 4) = y at q0 HDD HR
        generalize numL ((s.data.toList.drop 5).take 2) = m at q1 HDD HR
        generalize numL ((s.data.toList.drop 8).take 2) = d at q2 HDD HR
        go_wp2_with fail
        go_region_held3 (fun w' => w'.cell? ⟨g, 0, none⟩ = some (.int .i64 (y : Int)) ∧ w'.cell? ⟨g, 1, none⟩ = some (.int .i64 (m : Int)) ∧ w'.cell? ⟨g, 2, none⟩ = some (.int .i64 (d : Int))) (exact ⟨q0, q1, q2⟩) (first
          | (go_at_call 19; refine (Days_yes _ _ _ HDD.out _).mono ?_; rintro e w' ⟨rfl, rfl⟩))
        go_wp2_with fail
        go_ret2
        exact ⟨ret2_ints HR.out, HB1.out.drew⟩
      · have HDD := Lib.hid hD
        have HR := Lib.hid (calP_no HF.out hD)
        clear hD hl3
        generalize numL (s.data.toList.take 4) = y at q0 HDD
        generalize numL ((s.data.toList.drop 5).take 2) = m at q1 HDD
        generalize numL ((s.data.toList.drop 8).take 2) = d at q2 HDD
        go_wp2_with fail
        go_region_held3 (fun w' => w'.cell? ⟨g, 0, none⟩ = some (.int .i64 (y : Int)) ∧ w'.cell? ⟨g, 1, none⟩ = some (.int .i64 (m : Int)) ∧ w'.cell? ⟨g, 2, none⟩ = some (.int .i64 (d : Int))) (exact ⟨q0, q1, q2⟩) (first
          | (go_at_call 19; refine (Days_no _ _ _ HDD.out _).mono ?_; rintro e w' ⟨rfl, rfl⟩))
        go_wp2_with fail
        go_ret2
        exact ⟨ret2_ints HR.out, HB1.out.drew⟩
    · have HF := Lib.hid (calP_rest hn hre)
      rw [← hr] at hre
      obtain ⟨hr1, hr2⟩ := nonempty_list hre
      have hrb : (s'.toList == []) = false := by simpa using hr2
      obtain ⟨A8, c8, rfl⟩ := row_form hv
      clear hb1 hn HM HD hv hr hre hr2
      go_wp2_with fail
      go_ret2
      exact ⟨ret2_ints HF.out, HB1.out⟩

theorem cut_data (s : ByteArray) (a b : Nat) : (s.extract a b).data.toList = (s.data.toList.drop a).take (b - a) := Lib.extract_data s a b
theorem form_ok {l : List UInt8} (hf : formB l pat3 = true) : l.length = 10 ∧ (∀ c ∈ l.take 4, isDg c = true) ∧ (∀ c ∈ (l.drop 5).take 2, isDg c = true) ∧ (∀ c ∈ (l.drop 8).take 2, isDg c = true) := by
  have hl := formB_len hf
  rw [form3] at hf
  exact ⟨hl, (numOK_iff.1 hf.1.1).2, (numOK_iff.1 hf.1.2.2.1).2, (numOK_iff.1 hf.1.2.2.2.2).2⟩
theorem rNumber_cut (s : ByteArray) (a b k : Nat) (hk : b - a = k) (hk9 : k ≤ 9) (hd : ∀ c ∈ (s.data.toList.drop a).take k, isDg c = true) (w : World) : Calls Tryd.prog 51 #[.string (s.extract a b)] w fun e w' => e = .returned (.int .i64 (numL ((s.data.toList.drop a).take k) : Int)) ∧ w = w' := by
  subst hk
  have h := rNumber_any (s.extract a b) (by rw [← size_len, cut_data, List.length_take]; omega) (by rw [cut_data]; exact hd) w
  rwa [cut_data] at h

theorem rNumber_a (s : ByteArray) (hd : ∀ c ∈ s.data.toList.take 4, isDg c = true) (w : World) : Calls Tryd.prog 51 #[.string (s.extract 0 4)] w fun e w' => e = .returned (.int .i64 (numL (s.data.toList.take 4) : Int)) ∧ w = w' :=
  rNumber_cut s 0 4 4 rfl (by omega) hd w

set_option maxRecDepth 100000 in
set_option maxHeartbeats 2000000 in
theorem rParse_any (s : ByteArray) (w : World) : Calls Tryd.prog 33 #[.string s] w fun e w' => e = .returned (.tuple #[.int .i64 (calP s.data.toList).1, .int .i64 (calP s.data.toList).2]) ∧ Below w.heap.size w w' := by
  have HP : Hid ((⟨#[48, 48, 48, 48, 45, 48, 48, 45, 48, 48]⟩ : ByteArray).data.toList = pat3) := Lib.hid rfl
  by_cases hf : formB s.data.toList pat3 = true
  · have ho := form_ok hf
    have hsz : s.size = 10 := by rw [← size_len]; exact ho.1
    have h4 := Lib.hid ho.2.1
    have h5 := Lib.hid ho.2.2.1
    have h8 := Lib.hid ho.2.2.2
    have HS8 : Hid (s.size - 8 = 2) := Lib.hid (by omega)
    have hs4 : (4 : Int) ≤ (s.size : Int) := by omega
    have hs5 : (5 : Int) ≤ (s.size : Int) := by omega
    have hs7 : (7 : Int) ≤ (s.size : Int) := by omega
    have hs8 : (8 : Int) ≤ (s.size : Int) := by omega
    have HF := Lib.hid hf
    clear ho hsz hf
    by_cases hD : Date (numL (s.data.toList.take 4)) (numL ((s.data.toList.drop 5).take 2)) (numL ((s.data.toList.drop 8).take 2))
    · have HDD := Lib.hid hD
      have HR := Lib.hid (calP_yes HF.out hD)
      clear hD
      go_enter Tryd.func33, Tryd.ntmps33
      go_wp2_with fail
      refine (form_any s _ (by decide) _).mono ?_
      rw [HP.out, HF.out]
      rintro e w1 ⟨rfl, hb1⟩
      have HB1 := Lib.hid hb1
      clear hb1
      go_wp2_with fail
      have HBW : Hid (Below w.heap.size w w1.drew) := Lib.hid HB1.out.drew
      go_region_held3 (fun _ => True) (trivial) (first
        | (go_at_call 51; with_reducible refine (rNumber_a s h4.out _).mono ?_; rintro e w' ⟨rfl, rfl⟩)
        | (go_at_call 51; with_reducible refine (rNumber_cut s 5 7 2 rfl (by omega) h5.out _).mono ?_; rintro e w' ⟨rfl, rfl⟩)
        | (go_at_call 51; with_reducible refine (rNumber_cut s 8 s.size 2 HS8.out (by omega) h8.out _).mono ?_; rintro e w' ⟨rfl, rfl⟩)
        | (go_at_call 20; with_reducible refine (rDays_yes _ _ _ HDD.out _).mono ?_; rintro e w' ⟨rfl, hb2⟩; have HB2 := Lib.hid (below_trans HBW.out hb2); clear hb2))
      go_wp2_with fail
      go_ret2
      exact ⟨ret2_ints HR.out, HB2.out⟩
    · have HDD := Lib.hid hD
      have HR := Lib.hid (calP_no HF.out hD)
      clear hD
      go_enter Tryd.func33, Tryd.ntmps33
      go_wp2_with fail
      refine (form_any s _ (by decide) _).mono ?_
      rw [HP.out, HF.out]
      rintro e w1 ⟨rfl, hb1⟩
      have HB1 := Lib.hid hb1
      clear hb1
      go_wp2_with fail
      have HBW : Hid (Below w.heap.size w w1.drew) := Lib.hid HB1.out.drew
      go_region_held3 (fun _ => True) (trivial) (first
        | (go_at_call 51; with_reducible refine (rNumber_a s h4.out _).mono ?_; rintro e w' ⟨rfl, rfl⟩)
        | (go_at_call 51; with_reducible refine (rNumber_cut s 5 7 2 rfl (by omega) h5.out _).mono ?_; rintro e w' ⟨rfl, rfl⟩)
        | (go_at_call 51; with_reducible refine (rNumber_cut s 8 s.size 2 HS8.out (by omega) h8.out _).mono ?_; rintro e w' ⟨rfl, rfl⟩)
        | (go_at_call 20; with_reducible refine (rDays_no _ _ _ HDD.out _).mono ?_; rintro e w' ⟨rfl, hb2⟩; have HB2 := Lib.hid (below_trans HBW.out hb2); clear hb2))
      go_wp2_with fail
      go_ret2
      exact ⟨ret2_ints HR.out, HB2.out⟩
  · have HF : Hid (formB s.data.toList pat3 = false) := Lib.hid (by simpa using hf)
    have HR : Hid (calP s.data.toList = (0, 13)) := Lib.hid (by unfold calP; rw [if_neg hf])
    clear hf
    go_enter Tryd.func33, Tryd.ntmps33
    go_wp2_with fail
    refine (form_any s _ (by decide) _).mono ?_
    rw [HP.out, HF.out]
    rintro e w1 ⟨rfl, hb1⟩
    have HB1 := Lib.hid hb1
    clear hb1
    go_wp2_with fail
    go_ret2
    exact ⟨ret2_ints HR.out, HB1.out⟩

end Go.Proofs.YthkkjfofpoifiaaDoor
