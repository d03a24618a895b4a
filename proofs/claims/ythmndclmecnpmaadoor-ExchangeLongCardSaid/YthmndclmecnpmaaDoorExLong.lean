/- The walk of the law ExchangeLong. -/
import Derived.Test.YthmndclmecnpmaaDoorExK
import Derived.Test.YthmndclmecnpmaaDoorOxA
import Derived.Test.YthmndclmecnpmaaDoorMake
namespace Go.Proofs.YthmndclmecnpmaaDoor
open Go.RowKit
attribute [local go_sem ↓] Go.wp_at_zero Go.wp_at_succ

/-- The text, and its cells. -/
def lgS (n : Nat) : ByteArray := zeroS n
def lgC (n : Nat) : Array Value := zeroC n
theorem lg_size (n : Nat) : (lgS n).size = n := zeroS_size n
theorem lg_make0 (w : World) : (Instr.makeSlice 45 (.int .i64 65536) (.int .i64 65536)).run Tryd.prog w = .ok (.slice (some ⟨w.heap.size, 0, none⟩) 65536 65536) (w.alloc (.cells (lgC 65536) 5)) := make_bytes 65536 (by omega) w
theorem lg_conv0 (w : World) : (convert 45 9 (.slice (some ⟨w.heap.size, 0, none⟩) 65536 65536)).run Tryd.prog (w.alloc (.cells (lgC 65536) 5)) = .ok (.string (lgS 65536)) (w.alloc (.cells (lgC 65536) 5)) := conv_zero 65536 w
theorem lg_make1 (w : World) : (Instr.makeSlice 45 (.int .i64 65537) (.int .i64 65537)).run Tryd.prog w = .ok (.slice (some ⟨w.heap.size, 0, none⟩) 65537 65537) (w.alloc (.cells (lgC 65537) 5)) := make_bytes 65537 (by omega) w
theorem lg_conv1 (w : World) : (convert 45 9 (.slice (some ⟨w.heap.size, 0, none⟩) 65537 65537)).run Tryd.prog (w.alloc (.cells (lgC 65537) 5)) = .ok (.string (lgS 65537)) (w.alloc (.cells (lgC 65537) 5)) := conv_zero 65537 w
def aName : ByteArray := ⟨#[97]⟩
theorem aName_ok : nameB aName = true := by decide +kernel

/-- The calls of the law on a text. -/
structure LongCalls (T : ByteArray) (r : Int) : Prop where
  enc : pErr ⟨1, aName, 1, T⟩ = r
  put : (putO ⟨0, []⟩ ⟨1, T⟩).1 = r
  recv : (recvI (newIn 0) ⟨1, T⟩).1 = r
theorem long_calls {T : ByteArray} (h : T.size = 65536 ∨ T.size = 65537) : LongCalls T (if T.size = 65536 then 0 else 5) := by
  have h1 : (65536 < T.size) ↔ ¬ T.size = 65536 := by omega
  refine ⟨?_, ?_, ?_⟩
  · unfold pErr
    rw [if_neg (by simp), if_neg (by rw [aName_ok]; simp), if_neg (by simp)]
    by_cases hs : T.size = 65536
    · rw [if_neg (by show ¬ 65536 < T.size; omega), if_neg (by simp), if_pos hs]
    · rw [if_pos (by show 65536 < T.size; omega), if_neg hs]
  · unfold putO OutS.last
    rw [if_neg (by simp), if_neg (by simp)]
    by_cases hs : T.size = 65536
    · rw [if_neg (by show ¬ 65536 < T.size; omega), if_neg (by simp), if_pos hs]
    · rw [if_pos (by show 65536 < T.size; omega), if_neg hs]
  · unfold recvI
    rw [if_neg (by simp)]
    by_cases hs : T.size = 65536
    · rw [if_neg (by show ¬ 65536 < T.size; omega), if_neg (by simp [newIn]), if_neg (by simp [newIn]), if_neg (by simp [newIn]), if_pos hs]
    · rw [if_pos (by show 65536 < T.size; omega), if_neg hs]

set_option maxRecDepth 100000 in
set_option maxHeartbeats 2000000 in
theorem lawLong (more : Bool) (w : World) (ht : CalTab w) : Calls Tryd.prog 4 #[.bool more] w fun e w' => e = .returned (.bool true) ∧ Only Nobody w w' := by
  have HT := Lib.hid ht
  clear ht
  cases more
  · have hm := lg_make0 w
    have hc := lg_conv0 w
    have hlc := long_calls (T := lgS 65536) (.inl (lg_size _))
    rw [if_pos (lg_size _)] at hlc
    obtain ⟨T, HT0⟩ : ∃ T, Hid (lgS 65536 = T) := ⟨_, Lib.hid rfl⟩
    rw [HT0.out] at hlc hc
    have HC := Lib.hid hlc
    clear hlc
    go_enter Tryd.func4, Tryd.ntmps4
    go_wp2_with fail
    refine (encode_any ⟨1, aName, 1, T⟩ _ (HT.out.same (by repeat (first | exact Only.refl _ _ | refine Only.drew ?_ | refine Only.alloc ?_ _))) ⟨by show (-9223372036854775808 : Int) ≤ 1; omega, by show (1 : Int) ≤ 9223372036854775807; omega⟩).mono ?_
    rw [HC.out.enc]
    generalize pEnc ⟨1, aName, 1, T⟩ = E
    rintro e w1 ⟨rfl, ho1⟩
    have HO1 : Hid (Only Nobody w w1) := Lib.hid (Only.trans (by repeat (first | exact Only.refl _ _ | refine Only.drew ?_ | refine Only.alloc ?_ _)) ho1)
    clear ho1
    go_wp2_with fail
    refine (newOutbox_ok 0 (by omega) _).mono ?_
    rintro e w2 ⟨rfl, hx2, hb2⟩
    obtain ⟨O, HOO⟩ : ∃ O, Hid (O = w1.heap.size) := ⟨_, Lib.hid rfl⟩
    rw [← HOO.out] at hx2 ⊢
    have HX2 := Lib.hid hx2
    have HO2 : Hid (Only Nobody w w2) := Lib.hid (HO1.out.trans (Only.of_below hb2 Nobody))
    clear hx2 hb2
    go_wp2_with fail
    refine (newInbox_ok 0 (by omega) _).mono ?_
    rintro e w3 ⟨rfl, hi3, hb3⟩
    obtain ⟨I, HII⟩ : ∃ I, Hid (I = w2.heap.size) := ⟨_, Lib.hid rfl⟩
    rw [← HII.out] at hi3 ⊢
    have HI3 := Lib.hid hi3
    have HX3 := Lib.hid (HX2.out.same (Only.of_below hb3 Nobody))
    have HO3 : Hid (Only Nobody w w3) := Lib.hid (HO2.out.trans (Only.of_below hb3 Nobody))
    clear hi3 hb3
    go_wp2_with fail
    refine (known_any _ (HT.out.same HO3.out)).mono ?_
    rintro e w4 ⟨rfl, ho4⟩
    have HI4 := Lib.hid (blk_same HI3.out ho4)
    have HX4 := Lib.hid (HX3.out.same ho4)
    have HO4 : Hid (Only Nobody w w4) := Lib.hid (HO3.out.trans ho4)
    clear ho4
    go_wp2_with fail
    refine (put_ox O ⟨0, []⟩ (.slice none 0 0) ⟨1, T⟩ _ HX4.out (by decide) (by decide)).mono ?_
    rintro e w5 ⟨he, v', _, ho5, _⟩
    rw [HC.out.put] at he
    subst he
    have HNI : Hid (¬ OwnO O (.slice none 0 0) I) := Lib.hid (by
      rintro (e | e)
      · have := HX2.out.blk.lt; rw [HII.out] at e; omega
      · cases e)
    have HI5 := Lib.hid (blk_only HI4.out ho5 HNI.out)
    have HO5 : Hid (Only (fun k => w.heap.size ≤ k) w w5) := Lib.hid ((HO4.out.mono (fun _ x => x.elim)).trans (ho5.mono (fun k hk => by
      rcases hk with e | e
      · rw [e, HOO.out]; exact HO1.out.size
      · cases e)))
    clear ho5
    go_wp2_with fail
    refine (receive_in I (newIn 0) ⟨1, T⟩ _ HI5.out (by decide) (by decide)).mono ?_
    rintro e w6 ⟨he, _, ho6⟩
    rw [HC.out.recv] at he
    subst he
    have HO6 : Hid (Only (fun k => w.heap.size ≤ k) w w6) := Lib.hid (HO5.out.trans (ho6.mono (fun k hk => by
      subst hk
      rw [HII.out]
      exact HO2.out.size)))
    clear ho6
    go_wp2_with fail
    go_ret
    exact ⟨rfl, HO6.out.mono_lt (fun k hk h => by omega)⟩
  · have hm := lg_make1 w
    have hc := lg_conv1 w
    have hlc := long_calls (T := lgS 65537) (.inr (lg_size _))
    rw [if_neg (by rw [lg_size]; decide)] at hlc
    obtain ⟨T, HT0⟩ : ∃ T, Hid (lgS 65537 = T) := ⟨_, Lib.hid rfl⟩
    rw [HT0.out] at hlc hc
    have HC := Lib.hid hlc
    clear hlc
    go_enter Tryd.func4, Tryd.ntmps4
    go_wp2_with fail
    refine (encode_any ⟨1, aName, 1, T⟩ _ (HT.out.same (by repeat (first | exact Only.refl _ _ | refine Only.drew ?_ | refine Only.alloc ?_ _))) ⟨by show (-9223372036854775808 : Int) ≤ 1; omega, by show (1 : Int) ≤ 9223372036854775807; omega⟩).mono ?_
    rw [HC.out.enc]
    generalize pEnc ⟨1, aName, 1, T⟩ = E
    rintro e w1 ⟨rfl, ho1⟩
    have HO1 : Hid (Only Nobody w w1) := Lib.hid (Only.trans (by repeat (first | exact Only.refl _ _ | refine Only.drew ?_ | refine Only.alloc ?_ _)) ho1)
    clear ho1
    go_wp2_with fail
    refine (newOutbox_ok 0 (by omega) _).mono ?_
    rintro e w2 ⟨rfl, hx2, hb2⟩
    obtain ⟨O, HOO⟩ : ∃ O, Hid (O = w1.heap.size) := ⟨_, Lib.hid rfl⟩
    rw [← HOO.out] at hx2 ⊢
    have HX2 := Lib.hid hx2
    have HO2 : Hid (Only Nobody w w2) := Lib.hid (HO1.out.trans (Only.of_below hb2 Nobody))
    clear hx2 hb2
    go_wp2_with fail
    refine (newInbox_ok 0 (by omega) _).mono ?_
    rintro e w3 ⟨rfl, hi3, hb3⟩
    obtain ⟨I, HII⟩ : ∃ I, Hid (I = w2.heap.size) := ⟨_, Lib.hid rfl⟩
    rw [← HII.out] at hi3 ⊢
    have HI3 := Lib.hid hi3
    have HX3 := Lib.hid (HX2.out.same (Only.of_below hb3 Nobody))
    have HO3 : Hid (Only Nobody w w3) := Lib.hid (HO2.out.trans (Only.of_below hb3 Nobody))
    clear hi3 hb3
    go_wp2_with fail
    refine (known_any _ (HT.out.same HO3.out)).mono ?_
    rintro e w4 ⟨rfl, ho4⟩
    have HI4 := Lib.hid (blk_same HI3.out ho4)
    have HX4 := Lib.hid (HX3.out.same ho4)
    have HO4 : Hid (Only Nobody w w4) := Lib.hid (HO3.out.trans ho4)
    clear ho4
    go_wp2_with fail
    refine (put_ox O ⟨0, []⟩ (.slice none 0 0) ⟨1, T⟩ _ HX4.out (by decide) (by decide)).mono ?_
    rintro e w5 ⟨he, v', _, ho5, _⟩
    rw [HC.out.put] at he
    subst he
    have HNI : Hid (¬ OwnO O (.slice none 0 0) I) := Lib.hid (by
      rintro (e | e)
      · have := HX2.out.blk.lt; rw [HII.out] at e; omega
      · cases e)
    have HI5 := Lib.hid (blk_only HI4.out ho5 HNI.out)
    have HO5 : Hid (Only (fun k => w.heap.size ≤ k) w w5) := Lib.hid ((HO4.out.mono (fun _ x => x.elim)).trans (ho5.mono (fun k hk => by
      rcases hk with e | e
      · rw [e, HOO.out]; exact HO1.out.size
      · cases e)))
    clear ho5
    go_wp2_with fail
    refine (receive_in I (newIn 0) ⟨1, T⟩ _ HI5.out (by decide) (by decide)).mono ?_
    rintro e w6 ⟨he, _, ho6⟩
    rw [HC.out.recv] at he
    subst he
    have HO6 : Hid (Only (fun k => w.heap.size ≤ k) w w6) := Lib.hid (HO5.out.trans (ho6.mono (fun k hk => by
      subst hk
      rw [HII.out]
      exact HO2.out.size)))
    clear ho6
    go_wp2_with fail
    go_ret
    exact ⟨rfl, HO6.out.mono_lt (fun k hk h => by omega)⟩

end Go.Proofs.YthmndclmecnpmaaDoor
