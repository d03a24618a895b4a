/- Values: contracts of the reference's Size and Depth. (printed by gen_vas.py) -/
import Derived.Test.YtdccckoelnnnoaaGreatDoorVaO
namespace Go.Proofs.YtdccckoelnnnoaaGreatDoor
open Go.RowKit
attribute [local go_sem ↓] Go.wp_at_zero Go.wp_at_succ

theorem sub_l (T : VT) (j : Nat) : 1 + sizeL (T.l.take j) ≤ T.size := by
  have h := sizeL_app (T.l.take j) (T.l.drop j)
  rw [List.take_append_drop] at h
  cases T
  simp only [VT.size, VT.l] at *
  omega
theorem sub_f (T : VT) (j : Nat) : 1 + sizeL T.l + sizeF (T.f.take j) ≤ T.size := by
  have h := sizeF_app (T.f.take j) (T.f.drop j)
  rw [List.take_append_drop] at h
  cases T
  simp only [VT.size, VT.l, VT.f] at *
  omega
mutual
theorem depth_size : ∀ T : VT, T.depth ≤ T.size
  | .mk _ _ _ _ l f => by
    have h1 := depthL_size l
    have h2 := depthF_size f
    simp only [VT.depth, VT.size]
    omega
theorem depthL_size : ∀ l : List VT, depthL l ≤ sizeL l
  | [] => Nat.le_refl _
  | x :: l => by
    have h1 := depth_size x
    have h2 := depthL_size l
    simp only [depthL, sizeL]
    omega
theorem depthF_size : ∀ l : List (ByteArray × VT), depthF l ≤ sizeF l
  | [] => Nat.le_refl _
  | (_, x) :: l => by
    have h1 := depth_size x
    have h2 := depthF_size l
    simp only [depthF, sizeF]
    omega
end
theorem dub_l (T : VT) (j : Nat) : depthL (T.l.take j) ≤ T.size := by
  have h1 := depthL_size (T.l.take j)
  have := sub_l T j
  omega
theorem dub_f (T : VT) (j : Nat) : max (depthL T.l) (depthF (T.f.take j)) ≤ T.size := by
  have h1 := depthF_size (T.f.take j)
  have h2 := depthL_size T.l
  have := sub_f T j
  have := size_l T
  omega

def sizeOk (n : Nat) : Prop := ∀ (v : VC) (T : VT) (S : Nat → Prop) (w : World), T.size ≤ 2000000 → VAt w S n v T → Calls Tryz.prog 18 #[.agg #[.int .i64 v.k, .int .i64 v.i, .int .i64 v.s, .string v.t, .slice v.la v.ln v.lc, .slice v.fa v.fn v.fc]] w fun e w' => e = .returned (.int .i64 (T.size : Nat)) ∧ Only Nobody w w'
set_option maxRecDepth 100000 in
set_option maxHeartbeats 8000000 in
theorem size_step (n : Nat) (ih : sizeOk n) : sizeOk (n + 1) := by
  intro v T S w hsz h
  obtain ⟨vk, vi, vs, vt, la, ln, lc, fa, fn, fc⟩ := v
  obtain ⟨hk0, ⟨V, hV, hA⟩, ⟨F, hF, hB⟩⟩ := h
  clear hk0
  dsimp only at hV hF ⊢
  have HV := Lib.hid hV
  have HA := Lib.hid hA
  have HF := Lib.hid hF
  have HB := Lib.hid hB
  have HSZ := Lib.hid hsz
  have HIH := Lib.hid ih
  have HTL : Hid (T.l.length = ln) := Lib.hid (by rw [← hA.1, hV.len])
  have HTF : Hid (T.f.length = fn) := Lib.hid (by rw [← hB.1, hF.len])
  have hln : ln ≤ 2000000 := by rw [← HTL.out]; have := sizeL_len T.l; have := size_l T; omega
  have hfn : fn ≤ 2000000 := by rw [← HTF.out]; have := sizeF_len T.f; have := size_f T; omega
  have HBX : Hid (Blk (w.alloc (.cells #[.int .i64 vk, .int .i64 vi, .int .i64 vs, .string vt, .slice la ln lc, .slice fa fn fc] 25)) w.heap.size 25 #[.int .i64 vk, .int .i64 vi, .int .i64 vs, .string vt, .slice la ln lc, .slice fa fn fc]) := Lib.hid (Blk.new _ _ _)
  have HO0 : Hid (Only Nobody w (w.alloc (.cells #[.int .i64 vk, .int .i64 vi, .int .i64 vs, .string vt, .slice la ln lc, .slice fa fn fc] 25))) := Lib.hid ((Only.refl _ _).alloc _)
  have HFULL : Hid (T.size = 1 + sizeL T.l + sizeF T.f) := Lib.hid (by cases T; rfl)
  clear hV hA hF hB hsz ih
  go_enter Tryz.func18, Tryz.ntmps18
  go_wp2_with fail
  go_loopw [3, 4] (fun nv i wx => ∃ (j a : Nat), i = .int .i64 (j : Int) ∧ nv = .int .i64 (a : Int) ∧ j ≤ ln ∧ a ≤ 2000000 ∧ Hid (a = 1 + sizeL (T.l.take j)) ∧ Hid (Only Nobody (w.alloc (.cells #[.int .i64 vk, .int .i64 vi, .int .i64 vs, .string vt, .slice la ln lc, .slice fa fn fc] 25)) wx)) (fun _ i _ => ln - (intOf i).toNat)
  case atStart => exact ⟨0, 1, rfl, rfl, Nat.zero_le _, by decide, Lib.hid (by simp [sizeL]), Lib.hid (Only.refl _ _)⟩
  case round =>
    obtain ⟨j, a, rfl, rfl, hj, hab, HAV, HON⟩ := hrel
    have hj0 : (0 : Int) ≤ (j : Int) := by omega
    have ha0 : (0 : Int) ≤ (a : Int) := by omega
    have haI : (a : Int) ≤ 2000000 := by omega
    have HBL := Lib.hid (HON.out.blk HBX.out (fun x => x))
    have b4 : wr.cell? ⟨w.heap.size, 4, none⟩ = some (.slice la ln lc) := HBL.out.cell 4
    have b5 : wr.cell? ⟨w.heap.size, 5, none⟩ = some (.slice fa fn fc) := HBL.out.cell 5
    by_cases hjn : j < ln
    · have hjI : (j : Int) < (ln : Int) := by omega
      obtain ⟨ad, rfl⟩ := HV.out.some_ (by omega)
      obtain ⟨o, ho⟩ := HV.out.get hjn
      obtain ⟨x, hx, hax⟩ := HA.out.get ho
      obtain ⟨a0, a1, a2, a3, a4, a5⟩ := (HV.out.same (HO0.out.trans HON.out)).vat ho
      have HX := Lib.hid hx
      have HXS : Hid (x.size ≤ 2000000) := Lib.hid (by have := sizeL_mem hx; have := size_l T; have := HSZ.out; omega)
      have HAX := Lib.hid (hax.same (HO0.out.trans HON.out))
      obtain ⟨q, HQ⟩ : ∃ q, Hid (x.size = q) := ⟨_, Lib.hid rfl⟩
      have HNX : Hid (a + q = 1 + sizeL (T.l.take (j + 1))) := Lib.hid (by rw [take_next hx, sizeL_app, HAV.out, ← HQ.out]; simp only [sizeL]; omega)
      have HNB : Hid (a + q ≤ 2000000) := Lib.hid (by
        rw [HNX.out]
        have := sub_l T (j + 1)
        have := HSZ.out
        omega)
      have hq : q ≤ 2000000 := by have := HNB.out; omega
      have hq0 : (0 : Int) ≤ (q : Int) := by omega
      have hqI : (q : Int) ≤ 2000000 := by omega
      have hsum : (a : Int) + (q : Int) ≤ 4000000 := by omega
      clear ho hx hax
      go_wp2_with fail
      refine (HIH.out o x S _ HXS.out HAX.out).mono ?_
      rw [HQ.out]
      rintro e w2 ⟨rfl, ho⟩
      have HOn := Lib.hid (HON.out.trans ho)
      clear ho
      go_wp2_with fail
      go_roundw
      case rel => first | exact ⟨j + 1, a + q, by go_num, by go_num, by omega, HNB.out, HNX, HOn⟩ | ((repeat apply Exists.intro); exact ⟨⟨j + 1, a + q, by go_num, by go_num, by omega, HNB.out, HNX, HOn⟩, rfl⟩)
      case measure => simp [intOf]; omega
    · obtain rfl : j = ln := by omega
      have HAL : Hid (a = 1 + sizeL T.l) := Lib.hid (by have := HAV.out; rw [List.take_of_length_le (by rw [HTL.out]; exact Nat.le_refl _)] at this; exact this)
      go_wp2_with fail
      obtain ⟨wl, rfl⟩ : ∃ wl : World, wl = wr := ⟨_, rfl⟩
      clear b4 b5
      go_loopw [3, 5] (fun nv i wx => ∃ (k b : Nat), i = .int .i64 (k : Int) ∧ nv = .int .i64 (b : Int) ∧ k ≤ fn ∧ b ≤ 2000000 ∧ Hid (b = 1 + sizeL T.l + sizeF (T.f.take k)) ∧ Hid (Only Nobody (w.alloc (.cells #[.int .i64 vk, .int .i64 vi, .int .i64 vs, .string vt, .slice la j lc, .slice fa fn fc] 25)) wx)) (fun _ i _ => fn - (intOf i).toNat)
      case atStart => exact ⟨0, a, rfl, rfl, Nat.zero_le _, hab, Lib.hid (by rw [HAL.out]; simp [sizeF]), HON⟩
      case round =>
        clear HON HAV HBL
        obtain ⟨k, b, rfl, rfl, hk, hbb, HBV, HON⟩ := hrel
        have hk0 : (0 : Int) ≤ (k : Int) := by omega
        have hb0 : (0 : Int) ≤ (b : Int) := by omega
        have hbI : (b : Int) ≤ 2000000 := by omega
        have HBL := Lib.hid (HON.out.blk HBX.out (fun x => x))
        have b5 : wr.cell? ⟨w.heap.size, 5, none⟩ = some (.slice fa fn fc) := HBL.out.cell 5
        by_cases hkn : k < fn
        · have hkI : (k : Int) < (fn : Int) := by omega
          obtain ⟨ad, rfl⟩ := HF.out.some_ (by omega)
          obtain ⟨o, ho⟩ := HF.out.get hkn
          obtain ⟨x, hx, hax⟩ := HB.out.get ho
          obtain ⟨a0, a1, a2, a3, a4, a5, a6⟩ := (HF.out.same (HO0.out.trans HON.out)).fat ho
          have HX := Lib.hid hx
          have HXS : Hid (x.2.size ≤ 2000000) := Lib.hid (by have := sizeF_mem hx; have := size_f T; have := HSZ.out; omega)
          have HAX := Lib.hid (hax.2.same (HO0.out.trans HON.out))
          obtain ⟨q, HQ⟩ : ∃ q, Hid (x.2.size = q) := ⟨_, Lib.hid rfl⟩
          have HNX : Hid (b + q = 1 + sizeL T.l + sizeF (T.f.take (k + 1))) := Lib.hid (by rw [take_next hx, sizeF_app, HBV.out, ← HQ.out]; simp only [sizeF]; omega)
          have HNB : Hid (b + q ≤ 2000000) := Lib.hid (by
            rw [HNX.out]
            have := sub_f T (k + 1)
            have := HSZ.out
            omega)
          have hq : q ≤ 2000000 := by have := HNB.out; omega
          have hq0 : (0 : Int) ≤ (q : Int) := by omega
          have hqI : (q : Int) ≤ 2000000 := by omega
          have hsum : (b : Int) + (q : Int) ≤ 4000000 := by omega
          clear ho hx hax
          go_wp2_with fail
          refine (HIH.out o.v x.2 S _ HXS.out HAX.out).mono ?_
          rw [HQ.out]
          rintro e w2 ⟨rfl, ho⟩
          have HOn := Lib.hid (HON.out.trans ho)
          clear ho
          go_wp2_with fail
          go_roundw
          case rel => first | exact ⟨k + 1, b + q, by go_num, by go_num, by omega, HNB.out, HNX, HOn⟩ | ((repeat apply Exists.intro); exact ⟨⟨k + 1, b + q, by go_num, by go_num, by omega, HNB.out, HNX, HOn⟩, rfl⟩)
          case measure => simp [intOf]; omega
        · obtain rfl : k = fn := by omega
          have HFIN : Hid (T.size = b) := Lib.hid (by
            have h1 := HBV.out
            rw [List.take_of_length_le (by rw [HTF.out]; exact Nat.le_refl _)] at h1
            rw [HFULL.out]; omega)
          go_wp2_with fail
          go_ret
          exact ⟨ret_int (by rw [HFIN.out]), HO0.out.trans HON.out⟩
theorem size_any : ∀ n, sizeOk n
  | 0 => fun _ _ _ _ _ h => h.elim
  | n + 1 => size_step n (size_any n)

def depthOk (n : Nat) : Prop := ∀ (v : VC) (T : VT) (S : Nat → Prop) (w : World), T.size ≤ 2000000 → VAt w S n v T → Calls Tryz.prog 17 #[.agg #[.int .i64 v.k, .int .i64 v.i, .int .i64 v.s, .string v.t, .slice v.la v.ln v.lc, .slice v.fa v.fn v.fc]] w fun e w' => e = .returned (.int .i64 (T.depth : Nat)) ∧ Only Nobody w w'
set_option maxRecDepth 100000 in
set_option maxHeartbeats 8000000 in
theorem depth_step (n : Nat) (ih : depthOk n) : depthOk (n + 1) := by
  intro v T S w hsz h
  obtain ⟨vk, vi, vs, vt, la, ln, lc, fa, fn, fc⟩ := v
  obtain ⟨hk0, ⟨V, hV, hA⟩, ⟨F, hF, hB⟩⟩ := h
  clear hk0
  dsimp only at hV hF ⊢
  have HV := Lib.hid hV
  have HA := Lib.hid hA
  have HF := Lib.hid hF
  have HB := Lib.hid hB
  have HSZ := Lib.hid hsz
  have HIH := Lib.hid ih
  have HTL : Hid (T.l.length = ln) := Lib.hid (by rw [← hA.1, hV.len])
  have HTF : Hid (T.f.length = fn) := Lib.hid (by rw [← hB.1, hF.len])
  have hln : ln ≤ 2000000 := by rw [← HTL.out]; have := sizeL_len T.l; have := size_l T; omega
  have hfn : fn ≤ 2000000 := by rw [← HTF.out]; have := sizeF_len T.f; have := size_f T; omega
  have HBX : Hid (Blk (w.alloc (.cells #[.int .i64 vk, .int .i64 vi, .int .i64 vs, .string vt, .slice la ln lc, .slice fa fn fc] 25)) w.heap.size 25 #[.int .i64 vk, .int .i64 vi, .int .i64 vs, .string vt, .slice la ln lc, .slice fa fn fc]) := Lib.hid (Blk.new _ _ _)
  have HO0 : Hid (Only Nobody w (w.alloc (.cells #[.int .i64 vk, .int .i64 vi, .int .i64 vs, .string vt, .slice la ln lc, .slice fa fn fc] 25))) := Lib.hid ((Only.refl _ _).alloc _)
  have HFULL : Hid (T.depth = max (depthL T.l) (depthF T.f) + 1) := Lib.hid (by cases T; rfl)
  clear hV hA hF hB hsz ih
  go_enter Tryz.func17, Tryz.ntmps17
  go_wp2_with fail
  go_loopw [3, 4] (fun nv i wx => ∃ (j a : Nat), i = .int .i64 (j : Int) ∧ nv = .int .i64 (a : Int) ∧ j ≤ ln ∧ a ≤ 2000000 ∧ Hid (a = depthL (T.l.take j)) ∧ Hid (Only Nobody (w.alloc (.cells #[.int .i64 vk, .int .i64 vi, .int .i64 vs, .string vt, .slice la ln lc, .slice fa fn fc] 25)) wx)) (fun _ i _ => ln - (intOf i).toNat)
  case atStart => exact ⟨0, 0, rfl, rfl, Nat.zero_le _, by decide, Lib.hid (by simp [depthL]), Lib.hid (Only.refl _ _)⟩
  case round =>
    obtain ⟨j, a, rfl, rfl, hj, hab, HAV, HON⟩ := hrel
    have hj0 : (0 : Int) ≤ (j : Int) := by omega
    have ha0 : (0 : Int) ≤ (a : Int) := by omega
    have haI : (a : Int) ≤ 2000000 := by omega
    have HBL := Lib.hid (HON.out.blk HBX.out (fun x => x))
    have b4 : wr.cell? ⟨w.heap.size, 4, none⟩ = some (.slice la ln lc) := HBL.out.cell 4
    have b5 : wr.cell? ⟨w.heap.size, 5, none⟩ = some (.slice fa fn fc) := HBL.out.cell 5
    by_cases hjn : j < ln
    · have hjI : (j : Int) < (ln : Int) := by omega
      obtain ⟨ad, rfl⟩ := HV.out.some_ (by omega)
      obtain ⟨o, ho⟩ := HV.out.get hjn
      obtain ⟨x, hx, hax⟩ := HA.out.get ho
      obtain ⟨a0, a1, a2, a3, a4, a5⟩ := (HV.out.same (HO0.out.trans HON.out)).vat ho
      have HX := Lib.hid hx
      have HXS : Hid (x.size ≤ 2000000) := Lib.hid (by have := sizeL_mem hx; have := size_l T; have := HSZ.out; omega)
      have HAX := Lib.hid (hax.same (HO0.out.trans HON.out))
      obtain ⟨q, HQ⟩ : ∃ q, Hid (x.depth = q) := ⟨_, Lib.hid rfl⟩
      have HNX : Hid (max a q = depthL (T.l.take (j + 1))) := Lib.hid (by rw [take_next hx, depthL_app, HAV.out, ← HQ.out]; simp only [depthL]; omega)
      have HNB : Hid (max a q ≤ 2000000) := Lib.hid (by
        rw [HNX.out]
        have := dub_l T (j + 1)
        have := HSZ.out
        omega)
      have hq : q ≤ 2000000 := by have := HNB.out; omega
      have hq0 : (0 : Int) ≤ (q : Int) := by omega
      have hqI : (q : Int) ≤ 2000000 := by omega
      have hsum : (a : Int) + (q : Int) ≤ 4000000 := by omega
      clear ho hx hax
      go_wp2_with fail
      refine (HIH.out o x S _ HXS.out HAX.out).mono ?_
      rw [HQ.out]
      rintro e w2 ⟨rfl, ho⟩
      have HOn := Lib.hid (HON.out.trans ho)
      clear ho
      by_cases hmq : a ≤ q
      · have hmI : (a : Int) ≤ (q : Int) := by omega
        have hmx : max (a : Int) (q : Int) = (q : Int) := by omega
        have e : max a q = q := by omega
        rw [e] at HNX HNB
        clear e
        go_wp2_with fail
        go_roundw
        case rel => first | exact ⟨j + 1, q, by go_num, by go_num, by omega, HNB.out, HNX, HOn⟩ | ((repeat apply Exists.intro); exact ⟨⟨j + 1, q, by go_num, by go_num, by omega, HNB.out, HNX, HOn⟩, rfl⟩)
        case measure => simp [intOf]; omega
      · have hmI : ¬ (a : Int) ≤ (q : Int) := by omega
        have hmx : max (a : Int) (q : Int) = (a : Int) := by omega
        have e : max a q = a := by omega
        rw [e] at HNX HNB
        clear e
        go_wp2_with fail
        go_roundw
        case rel => first | exact ⟨j + 1, a, by go_num, by go_num, by omega, HNB.out, HNX, HOn⟩ | ((repeat apply Exists.intro); exact ⟨⟨j + 1, a, by go_num, by go_num, by omega, HNB.out, HNX, HOn⟩, rfl⟩)
        case measure => simp [intOf]; omega
    · obtain rfl : j = ln := by omega
      have HAL : Hid (a = depthL T.l) := Lib.hid (by have := HAV.out; rw [List.take_of_length_le (by rw [HTL.out]; exact Nat.le_refl _)] at this; exact this)
      go_wp2_with fail
      obtain ⟨wl, rfl⟩ : ∃ wl : World, wl = wr := ⟨_, rfl⟩
      clear b4 b5
      go_loopw [3, 5] (fun nv i wx => ∃ (k b : Nat), i = .int .i64 (k : Int) ∧ nv = .int .i64 (b : Int) ∧ k ≤ fn ∧ b ≤ 2000000 ∧ Hid (b = max (depthL T.l) (depthF (T.f.take k))) ∧ Hid (Only Nobody (w.alloc (.cells #[.int .i64 vk, .int .i64 vi, .int .i64 vs, .string vt, .slice la j lc, .slice fa fn fc] 25)) wx)) (fun _ i _ => fn - (intOf i).toNat)
      case atStart => exact ⟨0, a, rfl, rfl, Nat.zero_le _, hab, Lib.hid (by rw [HAL.out]; simp [depthF]), HON⟩
      case round =>
        clear HON HAV HBL
        obtain ⟨k, b, rfl, rfl, hk, hbb, HBV, HON⟩ := hrel
        have hk0 : (0 : Int) ≤ (k : Int) := by omega
        have hb0 : (0 : Int) ≤ (b : Int) := by omega
        have hbI : (b : Int) ≤ 2000000 := by omega
        have HBL := Lib.hid (HON.out.blk HBX.out (fun x => x))
        have b5 : wr.cell? ⟨w.heap.size, 5, none⟩ = some (.slice fa fn fc) := HBL.out.cell 5
        by_cases hkn : k < fn
        · have hkI : (k : Int) < (fn : Int) := by omega
          obtain ⟨ad, rfl⟩ := HF.out.some_ (by omega)
          obtain ⟨o, ho⟩ := HF.out.get hkn
          obtain ⟨x, hx, hax⟩ := HB.out.get ho
          obtain ⟨a0, a1, a2, a3, a4, a5, a6⟩ := (HF.out.same (HO0.out.trans HON.out)).fat ho
          have HX := Lib.hid hx
          have HXS : Hid (x.2.size ≤ 2000000) := Lib.hid (by have := sizeF_mem hx; have := size_f T; have := HSZ.out; omega)
          have HAX := Lib.hid (hax.2.same (HO0.out.trans HON.out))
          obtain ⟨q, HQ⟩ : ∃ q, Hid (x.2.depth = q) := ⟨_, Lib.hid rfl⟩
          have HNX : Hid (max b q = max (depthL T.l) (depthF (T.f.take (k + 1)))) := Lib.hid (by rw [take_next hx, depthF_app, HBV.out, ← HQ.out]; simp only [depthF]; omega)
          have HNB : Hid (max b q ≤ 2000000) := Lib.hid (by
            rw [HNX.out]
            have := dub_f T (k + 1)
            have := HSZ.out
            omega)
          have hq : q ≤ 2000000 := by have := HNB.out; omega
          have hq0 : (0 : Int) ≤ (q : Int) := by omega
          have hqI : (q : Int) ≤ 2000000 := by omega
          have hsum : (b : Int) + (q : Int) ≤ 4000000 := by omega
          clear ho hx hax
          go_wp2_with fail
          refine (HIH.out o.v x.2 S _ HXS.out HAX.out).mono ?_
          rw [HQ.out]
          rintro e w2 ⟨rfl, ho⟩
          have HOn := Lib.hid (HON.out.trans ho)
          clear ho
          by_cases hmq : b ≤ q
          · have hmI : (b : Int) ≤ (q : Int) := by omega
            have hmx : max (b : Int) (q : Int) = (q : Int) := by omega
            have e : max b q = q := by omega
            rw [e] at HNX HNB
            clear e
            go_wp2_with fail
            go_roundw
            case rel => first | exact ⟨k + 1, q, by go_num, by go_num, by omega, HNB.out, HNX, HOn⟩ | ((repeat apply Exists.intro); exact ⟨⟨k + 1, q, by go_num, by go_num, by omega, HNB.out, HNX, HOn⟩, rfl⟩)
            case measure => simp [intOf]; omega
          · have hmI : ¬ (b : Int) ≤ (q : Int) := by omega
            have hmx : max (b : Int) (q : Int) = (b : Int) := by omega
            have e : max b q = b := by omega
            rw [e] at HNX HNB
            clear e
            go_wp2_with fail
            go_roundw
            case rel => first | exact ⟨k + 1, b, by go_num, by go_num, by omega, HNB.out, HNX, HOn⟩ | ((repeat apply Exists.intro); exact ⟨⟨k + 1, b, by go_num, by go_num, by omega, HNB.out, HNX, HOn⟩, rfl⟩)
            case measure => simp [intOf]; omega
        · obtain rfl : k = fn := by omega
          have HFIN : Hid (T.depth = b + 1) := Lib.hid (by
            have h1 := HBV.out
            rw [List.take_of_length_le (by rw [HTF.out]; exact Nat.le_refl _)] at h1
            rw [HFULL.out]; omega)
          go_wp2_with fail
          go_ret
          exact ⟨ret_int (by rw [HFIN.out]; push_cast; rfl), HO0.out.trans HON.out⟩
theorem depth_any : ∀ n, depthOk n
  | 0 => fun _ _ _ _ _ h => h.elim
  | n + 1 => depth_step n (depth_any n)
end Go.Proofs.YtdccckoelnnnoaaGreatDoor
