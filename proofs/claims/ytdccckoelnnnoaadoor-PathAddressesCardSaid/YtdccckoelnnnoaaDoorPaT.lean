/- Path: same, Check, Text; the reference's Text. -/
import Derived.Test.YtdccckoelnnnoaaDoorPaC
namespace Go.Proofs.YtdccckoelnnnoaaDoor
open Go.RowKit
attribute [local go_sem ↓] Go.wp_at_zero Go.wp_at_succ

/-! Same. -/
def EqTo (a b : List Pt) (j : Nat) : Prop := ∀ i x y, i < j → a[i]? = some x → b[i]? = some y → x = y
theorem eqTo_end {a b : List Pt} (hl : a.length = b.length) (h : EqTo a b a.length) : a = b := by
  apply List.ext_getElem? 
  intro i
  by_cases hi : i < a.length
  · have h1 : a[i]? = some a[i] := List.getElem?_eq_getElem hi
    have h2 : b[i]? = some b[i] := List.getElem?_eq_getElem (by omega)
    rw [h1, h2, h i _ _ hi h1 h2]
  · rw [List.getElem?_eq_none (by omega), List.getElem?_eq_none (by omega)]
theorem EqTo.next {a b : List Pt} {j : Nat} {x : Pt} (h : EqTo a b j) (h1 : a[j]? = some x) (h2 : b[j]? = some x) : EqTo a b (j + 1) := by
  intro i u v hi hu hv
  by_cases e : i = j
  · subst e
    rw [h1] at hu; rw [h2] at hv
    injection hu with hu; injection hv with hv
    rw [← hu, ← hv]
  · exact h i u v (by omega) hu hv
set_option maxRecDepth 100000 in
set_option maxHeartbeats 8000000 in
theorem same_any (A B : Option Addr) (n c m d : Nat) (L M : List Pt) (w : World) (hn : n ≤ 1000) (ha : Pts w A n L) (hb : Pts w B m M) : Calls Tryd.prog 21 #[.slice A n c, .slice B m d] w fun e w' => e = .returned (.bool (decide (L = M))) ∧ Only Nobody w w' := by
  have HA := Lib.hid ha
  have HB := Lib.hid hb
  by_cases hlen : n = m
  case neg =>
    have HF : Hid (false = decide (L = M)) := Lib.hid (decide_eq_false (fun e => hlen (by rw [← ha.len, ← hb.len, e]))).symm
    have hI : ((n : Int) == (m : Int)) = false := by simp; omega
    have hJ : ¬ (n : Int) = (m : Int) := by omega
    clear ha hb hlen
    go_enter Tryd.func21, Tryd.ntmps21
    go_wp2_with fail
    go_ret
    exact ⟨ret_bool HF.out, Only.refl _ _⟩
  subst hlen
  have HEND : Hid (EqTo L M n → true = decide (L = M)) := Lib.hid fun h => (decide_eq_true (eqTo_end (by rw [ha.len, hb.len]) (by rw [ha.len]; exact h))).symm
  clear ha hb
  go_enter Tryd.func21, Tryd.ntmps21
  go_wp2_with fail
  go_loopw [5] (fun i wx => ∃ k : Nat, i = .int .i64 (k : Int) ∧ k ≤ n ∧ Hid (EqTo L M k) ∧ Hid (Only Nobody w wx)) (fun i _ => n - (intOf i).toNat)
  case atStart => exact ⟨0, rfl, Nat.zero_le _, Lib.hid (fun i _ _ h => absurd h (by omega)), Lib.hid (Only.refl _ _)⟩
  case round =>
    obtain ⟨k, rfl, hk, HC, HON⟩ := hrel
    by_cases hkm : k < n
    · have hkI : (k : Int) < (n : Int) := by omega
      have hk0 : (0 : Int) ≤ (k : Int) := by omega
      obtain ⟨ad, rfl⟩ := HA.out.some_ (by omega)
      obtain ⟨bd, rfl⟩ := HB.out.some_ (by omega)
      obtain ⟨⟨k1, i1, n1⟩, hx⟩ := HA.out.get hkm
      obtain ⟨⟨k2, i2, n2⟩, hy⟩ := HB.out.get hkm
      have HYES : Hid ((⟨k1, i1, n1⟩ : Pt) = ⟨k2, i2, n2⟩ → Hid (EqTo L M (k + 1))) := Lib.hid fun h => Lib.hid (HC.out.next hx (by rw [h]; exact hy))
      have HNO : Hid (¬ (⟨k1, i1, n1⟩ : Pt) = ⟨k2, i2, n2⟩ → Hid (false = decide (L = M))) := Lib.hid fun h => Lib.hid (decide_eq_false (fun e => h (by rw [e, hy] at hx; exact (Option.some.inj hx).symm))).symm
      obtain ⟨a0, a1, a2⟩ := (HA.out.same HON.out).at_ hx
      obtain ⟨b0, b1, b2⟩ := (HB.out.same HON.out).at_ hy
      dsimp only at a0 a1 a2 b0 b1 b2
      clear hx hy
      by_cases hk12 : k1 = k2
      case neg =>
        have hkb : (k1 == k2) = false := by simp; exact hk12
        have hkc : (k1 != k2) = true := by simp; exact hk12
        have HX := HNO.out (by simp [hk12])
        go_upto_region 6 with fail
        go_quiet (fail)
        go_wp2_with fail
        go_ret
        exact ⟨ret_bool HX.out, HON.out.drewN _⟩
      subst hk12
      by_cases hi12 : i1 = i2
      case neg =>
        have hib : (i1 == i2) = false := by simp; exact hi12
        have HX := HNO.out (by simp [hi12])
        go_upto_region 6 with fail
        go_quiet (fail)
        go_wp2_with fail
        go_ret
        exact ⟨ret_bool HX.out, HON.out.drewN _⟩
      subst hi12
      by_cases hn12 : n1 = n2
      case neg =>
        have hnb := toList_ne hn12
        have hnc : ¬ n1.toList = n2.toList := by simpa using hnb
        have HX := HNO.out (by simp [hn12])
        go_upto_region 6 with fail
        go_quiet (fail)
        go_wp2_with fail
        go_ret
        exact ⟨ret_bool HX.out, HON.out.drewN _⟩
      subst hn12
      have HX := HYES.out rfl
      go_upto_region 6 with fail
      go_quiet (fail)
      go_wp2_with fail
      have HOE := Lib.hid (HON.out.drewN nq)
      go_roundw
      case rel => first | exact ⟨k + 1, by go_num, by omega, HX, HOE⟩ | ((repeat apply Exists.intro); exact ⟨⟨k + 1, by go_num, by omega, HX, HOE⟩, rfl⟩)
      case measure => simp [intOf]; omega
    · obtain rfl : k = n := by omega
      have HF := Lib.hid (HEND.out HC.out)
      go_wp2_with fail
      go_ret
      exact ⟨ret_bool HF.out, HON.out⟩

/-! Check. -/
/-- The text of parts, one behind the other. -/
def txL (l : List Pt) : List UInt8 := l.flatMap fun p => (ptT p).data.toList
def okL (l : List Pt) : Bool := decide (1 ≤ l.length) && decide (l.length ≤ 16) && (l.headD ⟨0, 0, ⟨#[]⟩⟩).kind == 1 && l.all validB && decide ((txL l).length ≤ 201)
def chkE (l : List Pt) : Int := if okL l = true then 0 else 3
theorem ptT_size {p : Pt} (h : validB p = true) : (ptT p).size ≤ 33 := by
  obtain ⟨k, i, n⟩ := p
  unfold ptT
  unfold validB at h
  by_cases h1 : k = 1
  · have hx : i = 0 ∧ nameB n = true := by simpa [h1] using h
    have := nameB_size hx.2
    simp [h1]
    show 1 + n.size ≤ 33
    omega
  by_cases h2 : k = 2
  · have hx : (n.size = 0 ∧ 0 ≤ i) ∧ i < 256 := by simpa [h2] using h
    have : (decS i.toNat).size ≤ 13 := decS_size (by omega)
    simp [h2]
    show 1 + (decS i.toNat).size + 1 ≤ 33
    omega
  by_cases h3 : k = 3
  · simp [h3]
    decide
  by_cases h4 : k = 4
  · have hx : i = 0 ∧ nameB n = true := by simpa [h4] using h
    have := nameB_size hx.2
    simp [h4]
    show 1 + n.size ≤ 33
    omega
  · simp [h1, h2, h3, h4] at h
theorem txL_take {l : List Pt} {k : Nat} {p : Pt} (h : l[k]? = some p) : txL (l.take (k + 1)) = txL (l.take k) ++ (ptT p).data.toList := by
  have hk : k < l.length := (List.getElem?_eq_some_iff.1 h).1
  have hp : l[k] = p := by rw [List.getElem?_eq_getElem hk] at h; exact Option.some.inj h
  rw [List.take_succ_eq_append_getElem hk, hp]
  simp [txL]
/-- The first parts are valid. -/
def ValTo (l : List Pt) (k : Nat) : Prop := ∀ i p, i < k → l[i]? = some p → validB p = true
theorem ValTo.next {l : List Pt} {k : Nat} {p : Pt} (h : ValTo l k) (h1 : l[k]? = some p) (hv : validB p = true) : ValTo l (k + 1) := by
  intro i q hi hq
  by_cases e : i = k
  · subst e
    rw [h1] at hq
    injection hq with hq
    rw [← hq]; exact hv
  · exact h i q (by omega) hq
theorem ValTo.all {l : List Pt} (h : ValTo l l.length) : l.all validB = true := by
  rw [List.all_eq_true]
  intro p hp
  obtain ⟨i, hi, e⟩ := List.getElem_of_mem hp
  exact h i p hi (by rw [List.getElem?_eq_getElem hi, e])
theorem txL_le {l : List Pt} : ∀ k, ValTo l k → (txL (l.take k)).length ≤ 33 * k
  | 0, _ => by simp [txL]
  | k + 1, h => by
    have ih := txL_le k (fun i p hi => h i p (by omega))
    cases hp : l[k]? with
    | none =>
      have : l.length ≤ k := by rw [List.getElem?_eq_none_iff] at hp; exact hp
      rw [List.take_of_length_le (by omega)] at ih ⊢
      omega
    | some p =>
      have := ptT_size (h k p (by omega) hp)
      rw [txL_take hp, List.length_append, size_len]
      omega
theorem okL_no {l : List Pt} {k : Nat} {p : Pt} (h : l[k]? = some p) (hv : validB p = false) : okL l = false := by
  have : l.all validB = false := by
    rw [List.all_eq_false]
    exact ⟨p, List.mem_of_getElem? h, by simp [hv]⟩
  unfold okL
  rw [this]
  simp
theorem ret_int' {a b : Int} (h : a = b) : Ending.returned (.int .i64 a) = Ending.returned (.int .i64 b) := by rw [h]
set_option maxRecDepth 100000 in
set_option maxHeartbeats 8000000 in
theorem check_any (A : Option Addr) (n c : Nat) (L : List Pt) (w : World) (ha : Pts w A n L) (ht : CalTab w) : Calls Tryd.prog 23 #[.slice A n c] w fun e w' => e = .returned (.int .i64 (chkE L)) ∧ Only Nobody w w' := by
  have HA := Lib.hid ha
  have HT := Lib.hid ht
  have HNO : Hid (okL L = false → 3 = chkE L) := Lib.hid fun h => by unfold chkE; rw [h]; rfl
  by_cases h0 : n = 0
  · subst h0
    have HF := Lib.hid (HNO.out (by unfold okL; rw [ha.len]; rfl))
    clear ha ht
    go_enter Tryd.func23, Tryd.ntmps23
    go_wp2_with fail
    go_ret
    exact ⟨ret_int' HF.out, Only.refl _ _⟩
  have h0I : ¬ (n : Int) < 1 := by omega
  by_cases h16 : 16 < n
  · have HF := Lib.hid (HNO.out (by unfold okL; rw [ha.len, decide_eq_false (show ¬ n ≤ 16 by omega)]; simp))
    have hI : (16 : Int) < (n : Int) := by omega
    clear ha ht h16
    go_enter Tryd.func23, Tryd.ntmps23
    go_wp2_with fail
    go_ret
    exact ⟨ret_int' HF.out, Only.refl _ _⟩
  have h16I : ¬ (16 : Int) < (n : Int) := by omega
  have h16N : n ≤ 16 := by omega
  have hpI : (0 : Int) < (n : Int) := by omega
  obtain ⟨ad, rfl⟩ := ha.some_ (by omega)
  obtain ⟨⟨k1, i1, n1⟩, hx⟩ := ha.get (show 0 < n by omega)
  have hc0 : w.cell? ad = some (.int .i64 k1) := (ha.at_ hx).c0
  have hhd : (L.headD ⟨0, 0, ⟨#[]⟩⟩).kind = k1 := by
    cases L with
    | nil => simp at hx
    | cons a l => simp at hx; rw [hx]; rfl
  by_cases h1 : k1 = 1
  case neg =>
    have HF := Lib.hid (HNO.out (by unfold okL; rw [hhd]; simp [h1]))
    have h1b : (k1 == 1) = false := by simp; exact h1
    clear ha ht hx hhd h1
    go_enter Tryd.func23, Tryd.ntmps23
    go_wp2_with fail
    go_ret
    exact ⟨ret_int' HF.out, Only.refl _ _⟩
  subst h1
  have HEND : Hid (ValTo L n → okL L = decide ((txL L).length ≤ 201)) := Lib.hid fun h => by
    unfold okL
    rw [hhd, (show L.all validB = true from ValTo.all (by rw [ha.len]; exact h)), ha.len, decide_eq_true (show 1 ≤ n by omega), decide_eq_true h16N]
    rfl
  clear ha ht hx hhd
  go_enter Tryd.func23, Tryd.ntmps23
  go_wp2_with fail
  go_loopw [3, 23] (fun sz i wx => ∃ k z : Nat, i = .int .i64 (k : Int) ∧ sz = .int .i64 ((z : Int) - 1) ∧ k ≤ n ∧ Hid ((txL (L.take k)).length = z) ∧ Hid (ValTo L k) ∧ Hid (Only Nobody w wx)) (fun _ i _ => n - (intOf i).toNat)
  case atStart => exact ⟨0, 0, rfl, rfl, Nat.zero_le _, Lib.hid (by simp [txL]), Lib.hid (fun i _ h => absurd h (by omega)), Lib.hid (Only.refl _ _)⟩
  case round =>
    obtain ⟨k, z, rfl, rfl, hk, HZ, HV, HON⟩ := hrel
    have hzk : z ≤ 33 * k := by rw [← HZ.out]; exact txL_le k HV.out
    by_cases hkm : k < n
    · have hkI : (k : Int) < (n : Int) := by omega
      have hk0 : (0 : Int) ≤ (k : Int) := by omega
      obtain ⟨⟨k2, i2, n2⟩, hy⟩ := HA.out.get hkm
      obtain ⟨a0, a1, a2⟩ := (HA.out.same HON.out).at_ hy
      dsimp only at a0 a1 a2
      have HY := Lib.hid hy
      have HBK : Hid (Blk (wr.alloc (.cells #[.int .i64 k2, .int .i64 i2, .string n2] 61)) wr.heap.size 61 #[.int .i64 k2, .int .i64 i2, .string n2]) := Lib.hid (Blk.new wr _ _)
      have g0 := HBK.out.cell 0
      have g1 := HBK.out.cell 1
      have g2 := HBK.out.cell 2
      have HOA : Hid (Only Nobody w (wr.alloc (.cells #[.int .i64 k2, .int .i64 i2, .string n2] 61))) := Lib.hid (HON.out.alloc _)
      clear hy
      by_cases hv : validB ⟨k2, i2, n2⟩ = true
      case neg =>
        have HVV : Hid (validB ⟨k2, i2, n2⟩ = false) := Lib.hid (by simpa using hv)
        have HX := Lib.hid (HNO.out (okL_no HY.out HVV.out))
        clear hv
        go_wp2_with fail
        refine (valid_any k2 i2 n2 _).mono ?_
        rw [HVV.out]
        rintro e w1 ⟨rfl, ho⟩
        have HO1 := Lib.hid (HOA.out.trans ho)
        clear ho
        go_wp2_with fail
        go_ret
        exact ⟨ret_int' HX.out, HO1.out⟩
      have HVV := Lib.hid hv
      have hsz := ptT_size hv
      clear hv
      go_wp2_with fail
      refine (valid_any k2 i2 n2 _).mono ?_
      rw [HVV.out]
      rintro e w1 ⟨rfl, ho⟩
      have HO1 := Lib.hid (HOA.out.trans ho)
      have hb1 := ho.blk HBK.out (fun x => x)
      have f0 := hb1.cell 0
      have f1 := hb1.cell 1
      have f2 := hb1.cell 2
      clear ho hb1
      go_wp2_with fail
      refine (text_any k2 i2 n2 w1 (HT.out.same HO1.out) HVV.out).mono ?_
      obtain ⟨s, HS⟩ : ∃ s, Hid (ptT ⟨k2, i2, n2⟩ = s) := ⟨_, Lib.hid rfl⟩
      rw [HS.out] at hsz ⊢
      rintro e w2 ⟨rfl, ho⟩
      have HO2 := Lib.hid (HO1.out.trans ho)
      clear ho
      have hw1 : IntKind.i64.wrap ((z : Int) - 1 + (s.size : Int)) = ((z + s.size : Nat) : Int) - 1 := by rw [IntKind.wrap_i64]; omega
      go_wp2_with fail
      go_roundw
      case rel =>
        have HZ2 : Hid ((txL (L.take (k + 1))).length = z + s.size) := Lib.hid (by rw [txL_take HY.out, List.length_append, size_len, HS.out, HZ.out])
        have HV2 := Lib.hid (HV.out.next HY.out HVV.out)
        first
        | exact ⟨k + 1, z + s.size, by go_num, rfl, by omega, HZ2, HV2, HO2⟩
        | ((repeat apply Exists.intro); exact ⟨⟨k + 1, z + s.size, by go_num, rfl, by omega, HZ2, HV2, HO2⟩, rfl⟩)
        | exact ⟨k + 1, z + s.size, by go_num, by go_num, by omega, HZ2, HV2, HO2⟩
      case measure => simp [intOf]; omega
    · obtain rfl : k = n := by omega
      have HOKL := HEND.out HV.out
      have hZ := HZ.out
      rw [List.take_of_length_le (by rw [HA.out.len]; exact Nat.le_refl _)] at hZ
      rw [hZ] at HOKL
      by_cases hz : z ≤ 201
      · have HF : Hid (0 = chkE L) := Lib.hid (by unfold chkE; rw [HOKL, decide_eq_true hz]; rfl)
        have hzI : ¬ (200 : Int) < (z : Int) - 1 := by omega
        clear HOKL hZ hz
        go_wp2_with fail
        go_ret
        exact ⟨ret_int' HF.out, HON.out⟩
      · have HF := Lib.hid (HNO.out (by rw [HOKL, decide_eq_false hz]))
        have hzI : (200 : Int) < (z : Int) - 1 := by omega
        clear HOKL hZ hz
        go_wp2_with fail
        go_ret
        exact ⟨ret_int' HF.out, HON.out⟩
end Go.Proofs.YtdccckoelnnnoaaDoor
