/- Path, the reference: Size and Depth of any value: some number. -/
import Derived.Test.YtdccckoelnnnoaaDoorVaO
import Derived.Deep.RegionHeld3
namespace Go.Proofs.YtdccckoelnnnoaaDoor
open Go.RowKit
attribute [local go_sem ↓] Go.wp_at_zero Go.wp_at_succ

def AnInt (w : World) (e : Ending) (w' : World) : Prop := ∃ z : Int, e = .returned (.int .i64 z) ∧ Only Nobody w w'
def sizeOk (n : Nat) : Prop := ∀ (v : VC) (T : VT) (S : Nat → Prop) (w : World), T.size ≤ 140737488351232 → VAt w S n v T → Calls Tryd.prog 28 #[.agg #[.int .i64 v.k, .int .i64 v.i, .int .i64 v.s, .string v.t, .slice v.la v.ln v.lc, .slice v.fa v.fn v.fc]] w (AnInt w)
set_option maxRecDepth 100000 in
set_option maxHeartbeats 8000000 in
theorem size_step (n : Nat) (ih : sizeOk n) : sizeOk (n + 1) := by
  intro v T S w hsz h
  obtain ⟨vk, vi, vs, vt, la, ln, lc, fa, fn, fc⟩ := v
  obtain ⟨hk0, ⟨V, hV, hA⟩, ⟨F, hF, hB⟩⟩ := h
  clear hk0
  dsimp only at hV hF ⊢
  have HV := Lib.hid hV
  have HA := Lib.hid hA
  have HF := Lib.hid hF
  have HB := Lib.hid hB
  have HSZ := Lib.hid hsz
  have HIH := Lib.hid ih
  have HTL : Hid (T.l.length = ln) := Lib.hid (by rw [← hA.1, hV.len])
  have HTF : Hid (T.f.length = fn) := Lib.hid (by rw [← hB.1, hF.len])
  have hln : ln ≤ 1599289640355 := by rw [← HTL.out]; have := sizeL_len T.l; have := size_l T; omega
  have hfn : fn ≤ 1353245080300 := by rw [← HTF.out]; have := sizeF_len T.f; have := size_f T; omega
  have HBX : Hid (Blk (w.alloc (.cells #[.int .i64 vk, .int .i64 vi, .int .i64 vs, .string vt, .slice la ln lc, .slice fa fn fc] 25)) w.heap.size 25 #[.int .i64 vk, .int .i64 vi, .int .i64 vs, .string vt, .slice la ln lc, .slice fa fn fc]) := Lib.hid (Blk.new _ _ _)
  have HO0 : Hid (Only Nobody w (w.alloc (.cells #[.int .i64 vk, .int .i64 vi, .int .i64 vs, .string vt, .slice la ln lc, .slice fa fn fc] 25))) := Lib.hid ((Only.refl _ _).alloc _)
  clear hV hA hF hB hsz ih
  go_enter Tryd.func28, Tryd.ntmps28
  go_wp2_with fail
  go_loopw [3, 4] (fun nv i wx => ∃ (j : Nat) (a : Int), i = .int .i64 (j : Int) ∧ nv = .int .i64 a ∧ j ≤ ln ∧ Hid (Only Nobody (w.alloc (.cells #[.int .i64 vk, .int .i64 vi, .int .i64 vs, .string vt, .slice la ln lc, .slice fa fn fc] 25)) wx)) (fun _ i _ => ln - (intOf i).toNat)
  case atStart => exact ⟨0, 1, rfl, rfl, Nat.zero_le _, Lib.hid (Only.refl _ _)⟩
  case round =>
    obtain ⟨j, a, rfl, rfl, hj, HON⟩ := hrel
    have hj0 : (0 : Int) ≤ (j : Int) := by omega
    have HBL := Lib.hid (HON.out.blk HBX.out (fun x => x))
    have b4 : wr.cell? ⟨w.heap.size, 4, none⟩ = some (.slice la ln lc) := HBL.out.cell 4
    have b5 : wr.cell? ⟨w.heap.size, 5, none⟩ = some (.slice fa fn fc) := HBL.out.cell 5
    by_cases hjn : j < ln
    · have hjI : (j : Int) < (ln : Int) := by omega
      obtain ⟨ad, rfl⟩ := HV.out.some_ (by omega)
      obtain ⟨o, ho⟩ := HV.out.get hjn
      obtain ⟨x, hx, hax⟩ := HA.out.get ho
      obtain ⟨a0, a1, a2, a3, a4, a5⟩ := (HV.out.same (HO0.out.trans HON.out)).vat ho
      have HXS : Hid (x.size ≤ 140737488351232) := Lib.hid (by have := sizeL_mem hx; have := size_l T; have := HSZ.out; omega)
      have HAX := Lib.hid (hax.same (HO0.out.trans HON.out))
      clear ho hx hax
      go_wp2_with fail
      refine (HIH.out o x S _ HXS.out HAX.out).mono ?_
      rintro e w2 ⟨z, rfl, ho⟩
      have HOn := Lib.hid (HON.out.trans ho)
      clear ho
      go_wp2_with fail
      go_roundw
      case rel => first | exact ⟨j + 1, _, by go_num, rfl, by omega, HOn⟩ | ((repeat apply Exists.intro); exact ⟨⟨j + 1, _, by go_num, rfl, by omega, HOn⟩, rfl⟩)
      case measure => simp [intOf]; omega
    · obtain rfl : j = ln := by omega
      go_wp2_with fail
      obtain ⟨wl, rfl⟩ : ∃ wl : World, wl = wr := ⟨_, rfl⟩
      clear b4 b5
      go_loopw [3, 5] (fun nv i wx => ∃ (k : Nat) (b : Int), i = .int .i64 (k : Int) ∧ nv = .int .i64 b ∧ k ≤ fn ∧ Hid (Only Nobody (w.alloc (.cells #[.int .i64 vk, .int .i64 vi, .int .i64 vs, .string vt, .slice la j lc, .slice fa fn fc] 25)) wx)) (fun _ i _ => fn - (intOf i).toNat)
      case atStart => exact ⟨0, a, rfl, rfl, Nat.zero_le _, HON⟩
      case round =>
        clear HON HBL
        obtain ⟨k, b, rfl, rfl, hk, HON⟩ := hrel
        have hk0 : (0 : Int) ≤ (k : Int) := by omega
        have HBL := Lib.hid (HON.out.blk HBX.out (fun x => x))
        have b5 : wr.cell? ⟨w.heap.size, 5, none⟩ = some (.slice fa fn fc) := HBL.out.cell 5
        by_cases hkn : k < fn
        · have hkI : (k : Int) < (fn : Int) := by omega
          obtain ⟨ad, rfl⟩ := HF.out.some_ (by omega)
          obtain ⟨o, ho⟩ := HF.out.get hkn
          obtain ⟨x, hx, hax⟩ := HB.out.get ho
          obtain ⟨a0, a1, a2, a3, a4, a5, a6⟩ := (HF.out.same (HO0.out.trans HON.out)).fat ho
          have HXS : Hid (x.2.size ≤ 140737488351232) := Lib.hid (by have := sizeF_mem hx; have := size_f T; have := HSZ.out; omega)
          have HAX := Lib.hid (hax.2.same (HO0.out.trans HON.out))
          clear ho hx hax
          go_wp2_with fail
          refine (HIH.out o.v x.2 S _ HXS.out HAX.out).mono ?_
          rintro e w2 ⟨z, rfl, ho⟩
          have HOn := Lib.hid (HON.out.trans ho)
          clear ho
          go_wp2_with fail
          go_roundw
          case rel => first | exact ⟨k + 1, _, by go_num, rfl, by omega, HOn⟩ | ((repeat apply Exists.intro); exact ⟨⟨k + 1, _, by go_num, rfl, by omega, HOn⟩, rfl⟩)
          case measure => simp [intOf]; omega
        · obtain rfl : k = fn := by omega
          go_wp2_with fail
          go_ret
          exact ⟨_, rfl, HO0.out.trans HON.out⟩
theorem size_any : ∀ n, sizeOk n
  | 0 => fun _ _ _ _ _ h => h.elim
  | n + 1 => size_step n (size_any n)
def depthOk (n : Nat) : Prop := ∀ (v : VC) (T : VT) (S : Nat → Prop) (w : World), T.size ≤ 140737488351232 → VAt w S n v T → Calls Tryd.prog 27 #[.agg #[.int .i64 v.k, .int .i64 v.i, .int .i64 v.s, .string v.t, .slice v.la v.ln v.lc, .slice v.fa v.fn v.fc]] w (AnInt w)
set_option maxRecDepth 100000 in
set_option maxHeartbeats 8000000 in
theorem depth_step (n : Nat) (ih : depthOk n) : depthOk (n + 1) := by
  intro v T S w hsz h
  obtain ⟨vk, vi, vs, vt, la, ln, lc, fa, fn, fc⟩ := v
  obtain ⟨hk0, ⟨V, hV, hA⟩, ⟨F, hF, hB⟩⟩ := h
  clear hk0
  dsimp only at hV hF ⊢
  have HV := Lib.hid hV
  have HA := Lib.hid hA
  have HF := Lib.hid hF
  have HB := Lib.hid hB
  have HSZ := Lib.hid hsz
  have HIH := Lib.hid ih
  have HTL : Hid (T.l.length = ln) := Lib.hid (by rw [← hA.1, hV.len])
  have HTF : Hid (T.f.length = fn) := Lib.hid (by rw [← hB.1, hF.len])
  have hln : ln ≤ 1599289640355 := by rw [← HTL.out]; have := sizeL_len T.l; have := size_l T; omega
  have hfn : fn ≤ 1353245080300 := by rw [← HTF.out]; have := sizeF_len T.f; have := size_f T; omega
  have HBX : Hid (Blk (w.alloc (.cells #[.int .i64 vk, .int .i64 vi, .int .i64 vs, .string vt, .slice la ln lc, .slice fa fn fc] 25)) w.heap.size 25 #[.int .i64 vk, .int .i64 vi, .int .i64 vs, .string vt, .slice la ln lc, .slice fa fn fc]) := Lib.hid (Blk.new _ _ _)
  have HO0 : Hid (Only Nobody w (w.alloc (.cells #[.int .i64 vk, .int .i64 vi, .int .i64 vs, .string vt, .slice la ln lc, .slice fa fn fc] 25))) := Lib.hid ((Only.refl _ _).alloc _)
  clear hV hA hF hB hsz ih
  go_enter Tryd.func27, Tryd.ntmps27
  go_wp2_with fail
  go_loopw [3, 4] (fun nv i wx => ∃ (j : Nat) (a : Int), i = .int .i64 (j : Int) ∧ nv = .int .i64 a ∧ j ≤ ln ∧ Hid (Only Nobody (w.alloc (.cells #[.int .i64 vk, .int .i64 vi, .int .i64 vs, .string vt, .slice la ln lc, .slice fa fn fc] 25)) wx)) (fun _ i _ => ln - (intOf i).toNat)
  case atStart => exact ⟨0, 0, rfl, rfl, Nat.zero_le _, Lib.hid (Only.refl _ _)⟩
  case round =>
    obtain ⟨j, a, rfl, rfl, hj, HON⟩ := hrel
    have hj0 : (0 : Int) ≤ (j : Int) := by omega
    have HBL := Lib.hid (HON.out.blk HBX.out (fun x => x))
    have b4 : wr.cell? ⟨w.heap.size, 4, none⟩ = some (.slice la ln lc) := HBL.out.cell 4
    have b5 : wr.cell? ⟨w.heap.size, 5, none⟩ = some (.slice fa fn fc) := HBL.out.cell 5
    by_cases hjn : j < ln
    · have hjI : (j : Int) < (ln : Int) := by omega
      obtain ⟨ad, rfl⟩ := HV.out.some_ (by omega)
      obtain ⟨o, ho⟩ := HV.out.get hjn
      obtain ⟨x, hx, hax⟩ := HA.out.get ho
      obtain ⟨a0, a1, a2, a3, a4, a5⟩ := (HV.out.same (HO0.out.trans HON.out)).vat ho
      have HXS : Hid (x.size ≤ 140737488351232) := Lib.hid (by have := sizeL_mem hx; have := size_l T; have := HSZ.out; omega)
      have HAX := Lib.hid (hax.same (HO0.out.trans HON.out))
      clear ho hx hax
      go_wp2_with fail
      refine (HIH.out o x S _ HXS.out HAX.out).mono ?_
      rintro e w2 ⟨z, rfl, ho⟩
      have HOn := Lib.hid (HON.out.trans ho)
      clear ho
      by_cases hmq : a ≤ z
      · have hmx : max a z = z := by omega
        go_wp2_with fail
        go_roundw
        case rel => first | exact ⟨j + 1, _, by go_num, rfl, by omega, HOn⟩ | ((repeat apply Exists.intro); exact ⟨⟨j + 1, _, by go_num, rfl, by omega, HOn⟩, rfl⟩)
        case measure => simp [intOf]; omega
      · have hmx : max a z = a := by omega
        go_wp2_with fail
        go_roundw
        case rel => first | exact ⟨j + 1, _, by go_num, rfl, by omega, HOn⟩ | ((repeat apply Exists.intro); exact ⟨⟨j + 1, _, by go_num, rfl, by omega, HOn⟩, rfl⟩)
        case measure => simp [intOf]; omega
    · obtain rfl : j = ln := by omega
      go_wp2_with fail
      obtain ⟨wl, rfl⟩ : ∃ wl : World, wl = wr := ⟨_, rfl⟩
      clear b4 b5
      go_loopw [3, 5] (fun nv i wx => ∃ (k : Nat) (b : Int), i = .int .i64 (k : Int) ∧ nv = .int .i64 b ∧ k ≤ fn ∧ Hid (Only Nobody (w.alloc (.cells #[.int .i64 vk, .int .i64 vi, .int .i64 vs, .string vt, .slice la j lc, .slice fa fn fc] 25)) wx)) (fun _ i _ => fn - (intOf i).toNat)
      case atStart => exact ⟨0, a, rfl, rfl, Nat.zero_le _, HON⟩
      case round =>
        clear HON HBL
        obtain ⟨k, b, rfl, rfl, hk, HON⟩ := hrel
        have hk0 : (0 : Int) ≤ (k : Int) := by omega
        have HBL := Lib.hid (HON.out.blk HBX.out (fun x => x))
        have b5 : wr.cell? ⟨w.heap.size, 5, none⟩ = some (.slice fa fn fc) := HBL.out.cell 5
        by_cases hkn : k < fn
        · have hkI : (k : Int) < (fn : Int) := by omega
          obtain ⟨ad, rfl⟩ := HF.out.some_ (by omega)
          obtain ⟨o, ho⟩ := HF.out.get hkn
          obtain ⟨x, hx, hax⟩ := HB.out.get ho
          obtain ⟨a0, a1, a2, a3, a4, a5, a6⟩ := (HF.out.same (HO0.out.trans HON.out)).fat ho
          have HXS : Hid (x.2.size ≤ 140737488351232) := Lib.hid (by have := sizeF_mem hx; have := size_f T; have := HSZ.out; omega)
          have HAX := Lib.hid (hax.2.same (HO0.out.trans HON.out))
          clear ho hx hax
          go_wp2_with fail
          refine (HIH.out o.v x.2 S _ HXS.out HAX.out).mono ?_
          rintro e w2 ⟨z, rfl, ho⟩
          have HOn := Lib.hid (HON.out.trans ho)
          clear ho
          by_cases hmq : b ≤ z
          · have hmx : max b z = z := by omega
            go_wp2_with fail
            go_roundw
            case rel => first | exact ⟨k + 1, _, by go_num, rfl, by omega, HOn⟩ | ((repeat apply Exists.intro); exact ⟨⟨k + 1, _, by go_num, rfl, by omega, HOn⟩, rfl⟩)
            case measure => simp [intOf]; omega
          · have hmx : max b z = b := by omega
            go_wp2_with fail
            go_roundw
            case rel => first | exact ⟨k + 1, _, by go_num, rfl, by omega, HOn⟩ | ((repeat apply Exists.intro); exact ⟨⟨k + 1, _, by go_num, rfl, by omega, HOn⟩, rfl⟩)
            case measure => simp [intOf]; omega
        · obtain rfl : k = fn := by omega
          go_wp2_with fail
          go_ret
          exact ⟨_, rfl, HO0.out.trans HON.out⟩
theorem depth_any : ∀ n, depthOk n
  | 0 => fun _ _ _ _ _ h => h.elim
  | n + 1 => depth_step n (depth_any n)
end Go.Proofs.YtdccckoelnnnoaaDoor
