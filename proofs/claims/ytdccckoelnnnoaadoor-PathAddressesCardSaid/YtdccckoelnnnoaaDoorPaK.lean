/- Path: strings.IndexAny of the three stops, at any bytes. -/
import Derived.Test.YtdccckoelnnnoaaDoorPaJ
import Derived.Test.YtdccckoelnnnoaaDoorPaQ
namespace Go.Proofs.YtdccckoelnnnoaaDoor
open Go.RowKit
attribute [local go_sem ↓] Go.wp_at_zero Go.wp_at_succ

theorem rvalid_big {r : Int} (h : Lib.validRune r = true) : Utf8.valid r = true := by
  rw [validRune_eq]; exact h
theorem byte_none (s : ByteArray) (c : UInt8) (hs : ∀ i (h : i < s.size), (s[i]'h).toNat < 128) (hc : 128 ≤ c.toNat) : ∀ a b, Lib.indexByte (s.extract a b).data.toList c = -1 := by
  intro a b
  apply indexByte_none
  intro hm
  have := mem_extract hm
  obtain ⟨i, hi, e⟩ := List.mem_iff_getElem.1 this
  have hi' : i < s.size := by simpa using hi
  have h2 := hs i hi'
  have : s[i] = c := by rw [← e]; rfl
  rw [this] at h2
  omega
/-- A call that leaves the world alone, behind draws of an earlier region. -/
theorem behind_draws {f : FuncId} {args : Array Value} {w : World} {a n : Nat} {v : Value} (h : Calls Tryd.prog f args (w.drewN (a + n)) fun e w' => e = .returned v ∧ w' = w.drewN (a + n)) :
    Calls Tryd.prog f args (w.drewN (a + n)) fun e w' => e = .returned v ∧ ∃ m, w' = w.drewN (a + m) := h.mono fun _ _ h => ⟨h.1, n, h.2⟩
set_option maxRecDepth 100000 in
set_option maxHeartbeats 8000000 in
theorem rune_high (r : Int) (h1 : 128 ≤ r) (h2 : r ≤ 2147483647) (hne : r ≠ 65533) (w : World) : Calls Tryd.prog 67 #[.string stops, .int .i32 r] w fun e w' => e = .returned (.int .i64 (-1)) ∧ Only Nobody w w' := by
  have hb1 : ¬ r < 128 := by omega
  have hb0 : (0 : Int) ≤ r := by omega
  have hb2 : (r == 65533) = false := by simpa using hne
  obtain ⟨s, HS⟩ : ∃ s, Hid (stops = s) := ⟨_, Lib.hid rfl⟩
  have HG : Hid (∀ i (h : i < s.size), (s[i]'h).toNat < 128) := Lib.hid (by rw [← HS.out]; exact stops_get)
  have hsz : s.size = 3 := by rw [← HS.out]; rfl
  rw [HS.out]
  clear hne
  cases hv : Lib.validRune r with
  | false =>
    have HV := Lib.hid hv
    clear hv
    go_enter Tryd.func67, Tryd.ntmps67
    go_wp2_with fail
    refine (Tryd.utf8_ValidRune r _).mono ?_
    rw [HV.out]
    rintro e w1 ⟨rfl, rfl⟩
    go_wp2_with fail
    go_ret
    exact ⟨rfl, Only.refl _ _⟩
  | true =>
    obtain ⟨e2, e4, el⟩ := encode_facts r (rvalid_big hv) h1
    have HV := Lib.hid hv
    clear hv
    obtain ⟨R, hR⟩ : ∃ R, Utf8.encode r = R := ⟨_, rfl⟩
    rw [hR] at e2 e4 el
    go_enter Tryd.func67, Tryd.ntmps67
    go_wp2_with fail
    refine (Tryd.utf8_ValidRune r _).mono ?_
    rw [HV.out]
    rintro e w1 ⟨rfl, rfl⟩
    go_wp2_with fail
    go_step3
    go_wp2_with fail
    go_loopw [9, 10] (fun i _ wx => i = .int .i64 ((R.size : Int) - 1) ∧ wx = w1) (fun _ _ _ => 0)
    case atStart => exact ⟨rfl, rfl⟩
    case round =>
      obtain ⟨rfl, rfl⟩ := hrel
      have hms : R.size = 2 ∨ R.size = 3 ∨ R.size = 4 := by omega
      rcases hms with hm | hm | hm
      · have hw : IntKind.i64.wrap 2 = 2 := by kernel_rfl
        have hi1 : 1 < s.size := by omega
        have hr1 : 1 < R.size := by omega
        obtain ⟨x, hx⟩ : ∃ x, s[1] = x := ⟨_, rfl⟩
        obtain ⟨c, hc⟩ : ∃ c, R[1] = c := ⟨_, rfl⟩
        have h128 : 128 ≤ c.toNat := by
          have := el (by omega)
          simpa [hm, hc] using this
        have HIX : Hid (∀ a b w, Calls Tryd.prog 77 #[.string (s.extract a b), .int .u8 (c.toNat : Int)] w fun e w' => e = .returned (.int .i64 (-1)) ∧ w' = w) := Lib.hid fun a b w => (Tryd.strings_IndexByte (s.extract a b) (c.toNat : Int) w).mono (by
          rintro e w' ⟨rfl, rfl⟩
          have := byte_none s c HG.out h128 a b
          refine ⟨?_, rfl⟩
          rw [show ((c.toNat : Int)).toNat.toUInt8 = c by simp, this])
        have hxc : ((x.toNat : Int) != (c.toNat : Int)) = true := by
          have := HG.out 1 hi1
          rw [hx] at this
          simp
          omega
        clear el h128
        go_wp2_with fail
        go_step3
        go_wp2_with fail
        go_quiet (fail)
        go_wp2_with fail
        go_quiet ((go_at_call 77; exact behind_draws (HIX.out _ _ _)))
        clear hxc HIX hx hc hw hR
        go_wp2_with fail
        simp +zetaDelta only [Exit.noGoto_ret, Exit.inBlock, Exit.then]
        go_ret
        exact ⟨rfl, (Only.refl _ _).drewN _⟩
      · have hw : IntKind.i64.wrap 3 = 3 := by kernel_rfl
        have hi1 : 2 < s.size := by omega
        have hr1 : 2 < R.size := by omega
        obtain ⟨x, hx⟩ : ∃ x, s[2] = x := ⟨_, rfl⟩
        obtain ⟨c, hc⟩ : ∃ c, R[2] = c := ⟨_, rfl⟩
        have h128 : 128 ≤ c.toNat := by
          have := el (by omega)
          simpa [hm, hc] using this
        have HIX : Hid (∀ w, Calls Tryd.prog 77 #[.string ByteArray.empty, .int .u8 (c.toNat : Int)] w fun e w' => e = .returned (.int .i64 (-1)) ∧ w' = w) := Lib.hid fun w => (Tryd.strings_IndexByte ByteArray.empty (c.toNat : Int) w).mono (by
          rintro e w' ⟨rfl, rfl⟩
          exact ⟨rfl, rfl⟩)
        have hxc : ((x.toNat : Int) != (c.toNat : Int)) = true := by
          have := HG.out 2 hi1
          rw [hx] at this
          simp
          omega
        clear el h128
        go_wp2_with fail
        go_step3
        go_wp2_with fail
        go_quiet (fail)
        go_wp2_with fail
        go_quiet ((go_at_call 77; exact behind_draws (HIX.out _)))
        clear hxc HIX hx hc hw hR
        go_wp2_with fail
        simp +zetaDelta only [Exit.noGoto_ret, Exit.inBlock, Exit.then]
        go_ret
        exact ⟨rfl, (Only.refl _ _).drewN _⟩
      · go_wp2_with fail
        rw [Exit.noGoto_ret]
        go_ret
        exact ⟨rfl, Only.refl _ _⟩
end Go.Proofs.YtdccckoelnnnoaaDoor
