/- Path: Text, of the package and of the reference. -/
import Derived.Test.YtdccckoelnnnoaaDoorPaT
namespace Go.Proofs.YtdccckoelnnnoaaDoor
open Go.RowKit
attribute [local go_sem ↓] Go.wp_at_zero Go.wp_at_succ

/-- The text of a path: the bytes of its parts but the first one. -/
def txtB (l : List Pt) : ByteArray := if okL l = true then ⟨(txL l).tail.toArray⟩ else ⟨#[]⟩
theorem okL_parts {l : List Pt} (h : okL l = true) : 1 ≤ l.length ∧ l.length ≤ 16 ∧ l.all validB = true ∧ (txL l).length ≤ 201 ∧ (l.headD ⟨0, 0, ⟨#[]⟩⟩).kind = 1 := by
  unfold okL at h
  simp only [Bool.and_eq_true, decide_eq_true_eq, beq_iff_eq] at h
  exact ⟨h.1.1.1.1, h.1.1.1.2, h.1.2, h.2, h.1.1.2⟩
theorem okL_val {l : List Pt} (h : okL l = true) : ValTo l l.length := fun _ p _ hp => List.all_eq_true.1 (okL_parts h).2.2.1 p (List.mem_of_getElem? hp)
theorem tx_pos {l : List Pt} (h : okL l = true) : 1 ≤ (txL l).length := by
  obtain ⟨h1, _, _, _, h5⟩ := okL_parts h
  cases l with
  | nil => simp at h1
  | cons p l =>
    have hk : p.kind = 1 := h5
    simp only [txL, List.flatMap_cons, List.length_append]
    have : (ptT p).data.toList.length = 1 + p.name.data.toList.length := by
      unfold ptT; rw [if_pos hk]; simp
      omega
    omega
theorem chkE_ok {l : List Pt} (h : okL l = true) : chkE l = 0 := by unfold chkE; rw [h]; rfl
theorem chkE_no {l : List Pt} (h : ¬ okL l = true) : chkE l = 3 := by unfold chkE; rw [if_neg h]
theorem ret2_txt {a b : ByteArray} {x y : Int} (h : a = b) (h' : x = y) : Ending.returned (.tuple #[.string a, .int .i64 x]) = Ending.returned (.tuple #[.string b, .int .i64 y]) := by rw [h, h']
set_option maxRecDepth 100000 in
set_option maxHeartbeats 8000000 in
theorem ptext_any (A : Option Addr) (n c : Nat) (L : List Pt) (w : World) (ha : Pts w A n L) (ht : CalTab w) : Calls Tryd.prog 22 #[.slice A n c] w fun e w' => e = .returned (.tuple #[.string (txtB L), .int .i64 (chkE L)]) ∧ Only Nobody w w' := by
  have HA := Lib.hid ha
  have HT := Lib.hid ht
  have HCK := Lib.hid (check_any A n c L w ha ht)
  by_cases hok : okL L = true
  case neg =>
    have HE : Hid (chkE L = 3) := Lib.hid (chkE_no hok)
    have HF : Hid ((⟨#[]⟩ : ByteArray) = txtB L) := Lib.hid (by unfold txtB; rw [if_neg hok])
    clear ha ht hok
    go_enter Tryd.func22, Tryd.ntmps22
    go_wp2_with fail
    refine HCK.out.mono ?_
    rw [HE.out]
    rintro e w1 ⟨rfl, ho⟩
    have HO := Lib.hid ho
    clear ho
    go_wp2_with fail
    go_ret2
    exact ⟨ret2_txt HF.out HE.out.symm, HO.out⟩
  have HE : Hid (chkE L = 0) := Lib.hid (chkE_ok hok)
  obtain ⟨z, HZ⟩ : ∃ z, Hid ((txL L).length = z) := ⟨_, Lib.hid rfl⟩
  have hz1 : 1 ≤ z := by rw [← HZ.out]; exact tx_pos hok
  have hz2 : z ≤ 201 := by rw [← HZ.out]; exact (okL_parts hok).2.2.2.1
  have hn16 : n ≤ 16 := by rw [← ha.len]; exact (okL_parts hok).2.1
  have HV := Lib.hid (okL_val hok)
  have HF : Hid (∀ s : ByteArray, s.data.toList = (txL L).tail → s = txtB L) := Lib.hid fun s h => by
    unfold txtB
    rw [if_pos hok]
    exact str_ext (by rw [h])
  clear ha ht hok
  go_enter Tryd.func22, Tryd.ntmps22
  go_wp2_with fail
  refine HCK.out.mono ?_
  rw [HE.out]
  rintro e w0 ⟨rfl, ho⟩
  have HO0 := Lib.hid ho
  clear ho
  go_wp2_with fail
  go_loopw [5, 15] (fun sv i wx => ∃ (k : Nat) (s : ByteArray), i = .int .i64 (k : Int) ∧ sv = .string s ∧ k ≤ n ∧ s.size ≤ 33 * k ∧ Hid (s.data.toList = txL (L.take k)) ∧ Hid (Only Nobody w wx)) (fun _ i _ => n - (intOf i).toNat)
  case atStart => exact ⟨0, _, rfl, rfl, Nat.zero_le _, Nat.le_refl _, Lib.hid (by simp [txL]), HO0⟩
  case round =>
    obtain ⟨k, s, rfl, rfl, hk, hs, HS, HON⟩ := hrel
    by_cases hkm : k < n
    · have hkI : (k : Int) < (n : Int) := by omega
      have hk0 : (0 : Int) ≤ (k : Int) := by omega
      obtain ⟨ad, rfl⟩ := HA.out.some_ (by omega)
      obtain ⟨⟨k2, i2, n2⟩, hy⟩ := HA.out.get hkm
      obtain ⟨a0, a1, a2⟩ := (HA.out.same HON.out).at_ hy
      dsimp only at a0 a1 a2
      have HY := Lib.hid hy
      have HBK : Hid (Blk (wr.alloc (.cells #[.int .i64 k2, .int .i64 i2, .string n2] 61)) wr.heap.size 61 #[.int .i64 k2, .int .i64 i2, .string n2]) := Lib.hid (Blk.new wr _ _)
      have g0 := HBK.out.cell 0
      have g1 := HBK.out.cell 1
      have g2 := HBK.out.cell 2
      have HOA : Hid (Only Nobody w (wr.alloc (.cells #[.int .i64 k2, .int .i64 i2, .string n2] 61))) := Lib.hid (HON.out.alloc _)
      have hv := HV.out k _ (by rw [HA.out.len]; exact hkm) hy
      have hsz := ptT_size hv
      have HVV := Lib.hid hv
      clear hy hv
      go_wp2_with fail
      refine (text_any k2 i2 n2 _ (HT.out.same HOA.out) HVV.out).mono ?_
      obtain ⟨t, HS2⟩ : ∃ t, Hid (ptT ⟨k2, i2, n2⟩ = t) := ⟨_, Lib.hid rfl⟩
      rw [HS2.out] at hsz ⊢
      rintro e w2 ⟨rfl, ho⟩
      have HO2 := Lib.hid (HOA.out.trans ho)
      clear ho
      have hov : ¬ 9223372036854775807 < s.size + t.size := by omega
      go_wp2_with fail
      go_roundw
      case rel =>
        have HZ2 : Hid ((s ++ t).data.toList = txL (L.take (k + 1))) := Lib.hid (by rw [txL_take HY.out, HS2.out, ← HS.out]; simp)
        have hz3 : (s ++ t).size ≤ 33 * (k + 1) := by rw [ByteArray.size_append]; omega
        first
        | exact ⟨k + 1, s ++ t, by go_num, rfl, by omega, hz3, HZ2, HO2⟩
        | ((repeat apply Exists.intro); exact ⟨⟨k + 1, s ++ t, by go_num, rfl, by omega, hz3, HZ2, HO2⟩, rfl⟩)
      case measure => simp [intOf]; omega
    · obtain rfl : k = n := by omega
      have hS := HS.out
      rw [List.take_of_length_le (by rw [HA.out.len]; exact Nat.le_refl _)] at hS
      have hsz : s.size = z := by rw [← HZ.out, ← hS, size_len]
      have h1I : (1 : Int) ≤ (s.size : Int) := by omega
      have HSS := Lib.hid hS
      clear hS
      go_wp2_with fail
      go_ret2
      refine ⟨ret2_txt (HF.out _ ?_) HE.out.symm, HON.out⟩
      rw [← HSS.out, ByteArray.data_extract, Array.toList_extract]
      have hl : s.data.toList.length = z := by rw [size_len]; exact hsz
      simp [List.take_of_length_le, hl]

/-! The reference's Text. -/
def RefTo (l : List Pt) (k : Nat) : Prop := ∀ i p, i < k → l[i]? = some p → refOk p (decide (i = 0)) = true
theorem RefTo.next {l : List Pt} {k : Nat} {p : Pt} (h : RefTo l k) (h1 : l[k]? = some p) (hv : refOk p (decide (k = 0)) = true) : RefTo l (k + 1) := by
  intro i q hi hq
  by_cases e : i = k
  · subst e
    rw [h1] at hq
    injection hq with hq
    rw [← hq]; exact hv
  · exact h i q (by omega) hq
theorem refOk_valid {p : Pt} {f : Bool} (h : refOk p f = true) : validB p = true := by
  unfold refOk at h
  simp only [Bool.and_eq_true] at h
  exact h.1
theorem RefTo.val {l : List Pt} {k : Nat} (h : RefTo l k) : ValTo l k := fun i p hi hp => refOk_valid (h i p hi hp)
theorem RefTo.head {l : List Pt} {k : Nat} (h : RefTo l k) (hk : 0 < k) (hl : 0 < l.length) : (l.headD ⟨0, 0, ⟨#[]⟩⟩).kind = 1 := by
  cases l with
  | nil => simp at hl
  | cons p l =>
    have := h 0 p hk rfl
    unfold refOk at this
    simp only [Bool.and_eq_true] at this
    simpa using this.2
theorem okL_ref {l : List Pt} (h1 : 1 ≤ l.length) (h2 : l.length ≤ 16) (h : RefTo l l.length) : okL l = decide ((txL l).length ≤ 201) := by
  unfold okL
  rw [h.head (by omega) (by omega), h.val.all, decide_eq_true h1, decide_eq_true h2]
  rfl
theorem okL_refno {l : List Pt} {k : Nat} {p : Pt} (h : l[k]? = some p) (hv : refOk p (decide (k = 0)) = false) : okL l = false := by
  cases hx : validB p with
  | false => exact okL_no h hx
  | true =>
    unfold refOk at hv
    rw [hx, Bool.true_and] at hv
    by_cases hk : k = 0
    · subst hk
      have hh : (l.headD ⟨0, 0, ⟨#[]⟩⟩).kind = p.kind := by
        cases l with
        | nil => simp at h
        | cons a l => simp at h; rw [h]; rfl
      have hp : ¬ p.kind = 1 := by simpa using hv
      unfold okL
      rw [hh]
      simp [hp]
    · simp [hk] at hv
theorem tx_tail {l : List Pt} {k : Nat} {p : Pt} (hp : l[k]? = some p) (h : RefTo l (k + 1)) : (txL (l.take (k + 1))).tail = (txL (l.take k)).tail ++ (refT p (decide (k = 0))).data.toList := by
  have hr := h k p (by omega) hp
  rw [txL_take hp]
  by_cases hk : k = 0
  · subst hk
    have hkd : p.kind = 1 := by
      unfold refOk at hr
      simp only [Bool.and_eq_true] at hr
      simpa using hr.2
    unfold refT
    rw [hr]
    simp [txL, ptT, hkd]
  · unfold refT
    rw [hr]
    simp only [hk, decide_false, if_true]
    have hne : txL (l.take k) ≠ [] := by
      cases l with
      | nil => simp at hp
      | cons q l =>
        have h0 := h 0 q (by omega) rfl
        have hkd : q.kind = 1 := by
          unfold refOk at h0
          simp only [Bool.and_eq_true] at h0
          simpa using h0.2
        obtain ⟨j, rfl⟩ : ∃ j, k = j + 1 := ⟨k - 1, by omega⟩
        simp [txL, ptT, hkd]
    rw [List.tail_append_of_ne_nil hne]
    simp
def RtPost (L : List Pt) (w : World) (e : Ending) (w' : World) : Prop := ∃ s, e = .returned (.tuple #[.string s, .bool (okL L)]) ∧ (okL L = true → s = txtB L) ∧ Only Nobody w w'
theorem ret2_sb {a : ByteArray} {x y : Bool} (h : x = y) : Ending.returned (.tuple #[.string a, .bool x]) = Ending.returned (.tuple #[.string a, .bool y]) := by rw [h]
theorem refT_size {p : Pt} {f : Bool} : (refT p f).size ≤ 33 := by
  unfold refT
  split
  · rename_i h
    have hv := refOk_valid h
    have h33 := ptT_size hv
    split
    · rename_i hf
      have hkd : p.kind = 1 := by
        unfold refOk at h
        rw [hf] at h
        simp only [Bool.and_eq_true] at h
        simpa using h.2
      have hx : p.idx = 0 ∧ nameB p.name = true := by simpa [validB, hkd] using hv
      have := nameB_size hx.2
      omega
    · exact h33
  · decide
set_option maxRecDepth 100000 in
set_option maxHeartbeats 8000000 in
theorem rtxt_any (A : Option Addr) (n c : Nat) (L : List Pt) (w : World) (ha : Pts w A n L) : Calls Tryd.prog 18 #[.slice A n c] w (RtPost L w) := by
  have HA := Lib.hid ha
  by_cases h0 : n = 0
  · subst h0
    have HF : Hid (okL L = false) := Lib.hid (by unfold okL; rw [ha.len]; rfl)
    clear ha
    go_enter Tryd.func18, Tryd.ntmps18
    go_wp2_with fail
    go_ret2
    exact ⟨_, ret2_sb HF.out.symm, fun h => absurd (HF.out.symm.trans h) (by decide), Only.refl _ _⟩
  have h0I : ((n : Int) == 0) = false := by simp; omega
  by_cases h16 : 16 < n
  · have HF : Hid (okL L = false) := Lib.hid (by unfold okL; rw [ha.len, decide_eq_false (show ¬ n ≤ 16 by omega)]; simp)
    have hI : (16 : Int) < (n : Int) := by omega
    clear ha h16
    go_enter Tryd.func18, Tryd.ntmps18
    go_wp2_with fail
    go_ret2
    exact ⟨_, ret2_sb HF.out.symm, fun h => absurd (HF.out.symm.trans h) (by decide), Only.refl _ _⟩
  have h16I : ¬ (16 : Int) < (n : Int) := by omega
  have h16N : n ≤ 16 := by omega
  have HEND : Hid (RefTo L n → okL L = decide ((txL L).length ≤ 201)) := Lib.hid fun h => okL_ref (by rw [ha.len]; omega) (by rw [ha.len]; exact h16N) (by rw [ha.len]; exact h)
  clear ha
  go_enter Tryd.func18, Tryd.ntmps18
  go_wp2_with fail
  go_loopw [2, 4] (fun sv i wx => ∃ (k : Nat) (s : ByteArray), i = .int .i64 (k : Int) ∧ sv = .string s ∧ k ≤ n ∧ s.size ≤ 33 * k ∧ Hid (s.data.toList = (txL (L.take k)).tail) ∧ Hid (RefTo L k) ∧ Hid (Only Nobody w wx)) (fun _ i _ => n - (intOf i).toNat)
  case atStart => exact ⟨0, _, rfl, rfl, Nat.zero_le _, Nat.le_refl _, Lib.hid (by simp [txL]), Lib.hid (fun i _ h => absurd h (by omega)), Lib.hid (Only.refl _ _)⟩
  case round =>
    obtain ⟨k, s, rfl, rfl, hk, hs, HS, HV, HON⟩ := hrel
    by_cases hkm : k < n
    · have hkI : (k : Int) < (n : Int) := by omega
      have hk0 : (0 : Int) ≤ (k : Int) := by omega
      obtain ⟨ad, rfl⟩ := HA.out.some_ (by omega)
      obtain ⟨⟨k2, i2, n2⟩, hy⟩ := HA.out.get hkm
      obtain ⟨a0, a1, a2⟩ := (HA.out.same HON.out).at_ hy
      dsimp only at a0 a1 a2
      have HY := Lib.hid hy
      have hkb : ((k : Int) == 0) = decide (k = 0) := by
        by_cases e : k = 0
        · subst e; rfl
        · rw [decide_eq_false e]; simp; omega
      obtain ⟨f, HFF⟩ : ∃ f, Hid (decide (k = 0) = f) := ⟨_, Lib.hid rfl⟩
      rw [HFF.out] at hkb
      have hsz : (refT ⟨k2, i2, n2⟩ f).size ≤ 33 := refT_size
      obtain ⟨t, HS2⟩ : ∃ t, Hid (refT ⟨k2, i2, n2⟩ f = t) := ⟨_, Lib.hid rfl⟩
      rw [HS2.out] at hsz
      clear hy
      cases hok : refOk ⟨k2, i2, n2⟩ f with
      | false =>
        have HF : Hid (okL L = false) := Lib.hid (okL_refno HY.out (by rw [HFF.out]; exact hok))
        have HOK := Lib.hid hok
        clear hok
        go_wp2_with fail
        refine (rtext_any k2 i2 n2 f _).mono ?_
        rw [HOK.out]
        rintro e w2 ⟨rfl, ho⟩
        have HO2 := Lib.hid (HON.out.trans ho)
        clear ho
        go_wp2_with fail
        go_ret2
        exact ⟨_, ret2_sb HF.out.symm, fun h => absurd (HF.out.symm.trans h) (by decide), HO2.out⟩
      | true =>
        have HV2 : Hid (RefTo L (k + 1)) := Lib.hid (HV.out.next HY.out (by rw [HFF.out]; exact hok))
        have HOK := Lib.hid hok
        clear hok
        go_wp2_with fail
        refine (rtext_any k2 i2 n2 f _).mono ?_
        rw [HOK.out, HS2.out]
        rintro e w2 ⟨rfl, ho⟩
        have HO2 := Lib.hid (HON.out.trans ho)
        clear ho
        have hov : ¬ 9223372036854775807 < s.size + t.size := by omega
        go_wp2_with fail
        go_roundw
        case rel =>
          have HZ2 : Hid ((s ++ t).data.toList = (txL (L.take (k + 1))).tail) := Lib.hid (by rw [tx_tail HY.out HV2.out, HFF.out, HS2.out, ← HS.out]; simp)
          have hz3 : (s ++ t).size ≤ 33 * (k + 1) := by rw [ByteArray.size_append]; omega
          first
          | exact ⟨k + 1, s ++ t, by go_num, rfl, by omega, hz3, HZ2, HV2, HO2⟩
          | ((repeat apply Exists.intro); exact ⟨⟨k + 1, s ++ t, by go_num, rfl, by omega, hz3, HZ2, HV2, HO2⟩, rfl⟩)
        case measure => simp [intOf]; omega
    · obtain rfl : k = n := by omega
      have hS := HS.out
      rw [List.take_of_length_le (by rw [HA.out.len]; exact Nat.le_refl _)] at hS
      have hO := HEND.out HV.out
      have hl : s.size = (txL L).length - 1 := by rw [← size_len, hS, List.length_tail]
      have HF : Hid (decide ((s.size : Int) ≤ 200) = okL L) := Lib.hid (by rw [hO]; apply decide_eq_decide.2; omega)
      have HTX : Hid (okL L = true → s = txtB L) := Lib.hid fun h => by
        unfold txtB
        rw [if_pos h]
        exact str_ext (by rw [hS])
      clear hS hO hl
      go_wp2_with fail
      go_ret2
      exact ⟨_, ret2_sb HF.out, HTX.out, HON.out⟩
end Go.Proofs.YtdccckoelnnnoaaDoor
