/- Exchange: the contract of known; nil outboxes; the law ExchangeNil. -/
import Derived.Test.YthmndclmecnpmaaDoorExB
import Derived.Test.YthmndclmecnpmaaDoorExE
namespace Go.Proofs.YthmndclmecnpmaaDoor
open Go.RowKit
attribute [local go_sem ↓] Go.wp_at_zero Go.wp_at_succ

def kp : Pkt := ⟨1, ⟨#[111, 117, 116]⟩, 7, ⟨#[120]⟩⟩
theorem kp_err : pErr kp = 0 := by decide +kernel
theorem kp_enc : pEnc kp = ⟨#[100, 97, 116, 97, 32, 111, 117, 116, 32, 55, 10, 120]⟩ := by
  unfold pEnc
  rw [if_pos kp_err]
  exact str_ext (by decide +kernel)
def ka : It := ⟨6, ⟨#[98]⟩⟩
def kb : It := ⟨69, ⟨#[]⟩⟩
def kc : It := ⟨5, ⟨#[97]⟩⟩
def ks1 : InS := { (newIn 4).put 6 (some ka) with held := 1 }
def ks2 : InS := { ks1.put 5 (some kc) with held := 2 }
def ks3 : InS := tookI ks2
def ks4 : InS := tookI ks3
theorem kr1 : recvI (newIn 4) ka = (0, ks1) := rfl
theorem kr2 : recvI ks1 kb = (39, ks1) := rfl
theorem kr3 : recvI ks1 kc = (0, ks2) := rfl
theorem kn1 : nextI ks2 = some kc := rfl
theorem kn2 : nextI ks3 = some ka := rfl

set_option maxRecDepth 100000 in
set_option maxHeartbeats 2000000 in
theorem known_any (w : World) (ht : CalTab w) : Calls Tryd.prog 12 #[] w fun e w' => e = .returned (.bool true) ∧ Only Nobody w w' := by
  have HT := Lib.hid ht
  clear ht
  go_enter Tryd.func12, Tryd.ntmps12
  go_wp2_with fail
  refine (encode_any kp _ HT.out (by decide)).mono ?_
  rw [kp_err, kp_enc]
  rintro e w1 ⟨rfl, ho1⟩
  have HO1 := Lib.hid ho1
  clear ho1
  go_wp2_with fail
  refine (newInbox_ok 4 (by omega) _).mono ?_
  rintro e w2 ⟨rfl, hi2, hb2⟩
  obtain ⟨I, HI⟩ : ∃ I, Hid (I = w1.heap.size) := ⟨_, Lib.hid rfl⟩
  rw [← HI.out] at hi2 ⊢
  have HIW : Hid (w.heap.size ≤ I) := Lib.hid (by rw [HI.out]; exact HO1.out.size)
  have HO2 : Hid (Only Nobody w w2) := Lib.hid (HO1.out.trans (Only.of_below hb2 Nobody))
  have HI2 := Lib.hid hi2
  clear hi2 hb2 HO1
  go_wp2_with fail
  refine (receive_in I (newIn 4) ka _ HI2.out (by decide) (by decide)).mono ?_
  rw [kr1]
  rintro e w3 ⟨rfl, hi3, ho3⟩
  have HI3 := Lib.hid hi3
  have HO3 : Hid (Only (· = I) w w3) := Lib.hid ((HO2.out.mono (fun _ x => x.elim)).trans ho3)
  clear hi3 ho3
  go_wp2_with fail
  refine (receive_in I ks1 kb _ HI3.out (by decide) (by decide)).mono ?_
  rw [kr2]
  rintro e w4 ⟨rfl, hi4, ho4⟩
  have HI4 := Lib.hid hi4
  have HO4 : Hid (Only (· = I) w w4) := Lib.hid (HO3.out.trans ho4)
  clear hi4 ho4
  go_wp2_with fail
  refine (receive_in I ks1 kc _ HI4.out (by decide) (by decide)).mono ?_
  rw [kr3]
  rintro e w5 ⟨rfl, hi5, ho5⟩
  have HI5 := Lib.hid hi5
  have HO5 : Hid (Only (· = I) w w5) := Lib.hid (HO4.out.trans ho5)
  clear hi5 ho5
  go_wp2_with fail
  refine (take_in I ks2 _ HI5.out (by decide) (fun _ _ => by decide) (by decide)).mono ?_
  unfold TakePost
  rw [kn1]
  rintro e w6 ⟨rfl, hi6, ho6⟩
  have HI6 := Lib.hid (show InAt w6 I ks3 from hi6)
  have HO6 : Hid (Only (· = I) w w6) := Lib.hid (HO5.out.trans ho6)
  clear hi6 ho6
  go_wp2_with fail
  have HB6 : Hid (Blk (w6.alloc (.cells #[.int .i64 kc.n, .string kc.t] 36)) w6.heap.size 36 #[.int .i64 kc.n, .string kc.t]) := Lib.hid (Blk.new w6 _ _)
  have HO6' : Hid (Only (· = I) w (w6.alloc (.cells #[.int .i64 kc.n, .string kc.t] 36))) := Lib.hid (HO6.out.alloc _)
  have HN6 : Hid (¬ w6.heap.size = I) := Lib.hid (by have := HI6.out.lt; omega)
  have HZ6 : Hid (w.heap.size ≤ w6.heap.size) := Lib.hid HO6.out.size
  refine (take_in I ks3 _ (blk_same HI6.out (by repeat (first | exact Only.refl _ _ | refine Only.drew ?_ | refine Only.alloc ?_ _))) (by decide) (fun _ _ => by decide) (by decide)).mono ?_
  unfold TakePost
  rw [kn2]
  rintro e w7 ⟨rfl, hi7, ho7⟩
  have HI7 := Lib.hid (show InAt w7 I ks4 from hi7)
  have HO7 : Hid (Only (· = I) w w7) := Lib.hid (HO6'.out.trans ho7)
  have hx := ho7.blk HB6.out HN6.out
  have x1 : w7.cell? ⟨w6.heap.size, 1, none⟩ = some (.string ⟨#[97]⟩) := hx.cell 1
  have hlt := hx.lt
  have hne : w6.heap.size ≠ w7.heap.size := by omega
  have t1 : ka.t.toList = [98] := by rw [toList_data]; rfl
  have t2 : (ka.t.toList == [98]) = true := by rw [t1]; rfl
  clear hi7 ho7 hx
  go_wp2_with fail
  refine (taken_in I ks4 _ (blk_same HI7.out (by repeat (first | exact Only.refl _ _ | refine Only.drew ?_ | refine Only.alloc ?_ _)))).mono ?_
  rintro e w8 ⟨rfl, rfl⟩
  go_wp2_with fail
  go_ret
  exact ⟨rfl, (HO7.out.alloc _).mono_lt (fun k hk e => by have := HIW.out; omega)⟩

/-! Nil outboxes. -/
set_option maxHeartbeats 1000000 in
theorem put_nil (x : It) (w : World) : Calls Tryd.prog 24 #[.pointer none, .agg #[.int .i64 x.n, .string x.t]] w fun e w' => e = .returned (.int .i64 1) ∧ Only Nobody w w' := by
  go_enter Tryd.func24, Tryd.ntmps24
  go_wp2_with fail
  go_ret
  exact ⟨rfl, (by repeat (first | exact Only.refl _ _ | refine Only.drew ?_ | refine Only.alloc ?_ _))⟩
set_option maxHeartbeats 1000000 in
theorem ack_nil (n : Int) (w : World) : Calls Tryd.prog 26 #[.pointer none, .int .i64 n] w fun e w' => e = .returned (.int .i64 1) ∧ w = w' := by
  go_enter Tryd.func26, Tryd.ntmps26
  go_wp2_with fail
  go_ret
  exact ⟨rfl, rfl⟩
set_option maxHeartbeats 1000000 in
theorem due_nil (n m : Int) (w : World) : Calls Tryd.prog 25 #[.pointer none, .int .i64 n, .int .i64 m] w fun e w' => e = .returned (.slice none 0 0) ∧ w = w' := by
  go_enter Tryd.func25, Tryd.ntmps25
  go_wp2_with fail
  go_ret
  exact ⟨rfl, rfl⟩
set_option maxHeartbeats 1000000 in
theorem pending_nil (w : World) : Calls Tryd.prog 34 #[.pointer none] w fun e w' => e = .returned (.slice none 0 0) ∧ w = w' := by
  go_enter Tryd.func34, Tryd.ntmps34
  go_wp2_with fail
  go_ret
  exact ⟨rfl, rfl⟩
set_option maxHeartbeats 1000000 in
theorem acked_nil (w : World) : Calls Tryd.prog 32 #[.pointer none] w fun e w' => e = .returned (.int .i64 0) ∧ w = w' := by
  go_enter Tryd.func32, Tryd.ntmps32
  go_wp2_with fail
  go_ret
  exact ⟨rfl, rfl⟩
set_option maxHeartbeats 1000000 in
theorem last_nil (w : World) : Calls Tryd.prog 33 #[.pointer none] w fun e w' => e = .returned (.int .i64 0) ∧ w = w' := by
  go_enter Tryd.func33, Tryd.ntmps33
  go_wp2_with fail
  go_ret
  exact ⟨rfl, rfl⟩

set_option maxRecDepth 100000 in
set_option maxHeartbeats 2000000 in
theorem lawNil (x : It) (n m : Int) (w : World) (ht : CalTab w) : Calls Tryd.prog 7 #[.agg #[.int .i64 x.n, .string x.t], .int .i64 n, .int .i64 m] w fun e w' => e = .returned (.bool true) ∧ Only Nobody w w' := by
  have HT := Lib.hid ht
  clear ht
  have HBX : Hid (Blk (w.alloc (.cells #[.int .i64 x.n, .string x.t] 36)) w.heap.size 36 #[.int .i64 x.n, .string x.t]) := Lib.hid (Blk.new w _ _)
  go_enter Tryd.func7, Tryd.ntmps7
  go_wp2_with fail
  refine (next_nil _).mono ?_
  rintro e w1 ⟨rfl, ho1⟩
  have HO1 : Hid (Only Nobody w w1) := Lib.hid (Only.trans (by repeat (first | exact Only.refl _ _ | refine Only.drew ?_ | refine Only.alloc ?_ _)) ho1)
  have HB1 := Lib.hid (ho1.blk HBX.out (fun x => x))
  clear ho1
  go_wp2_with fail
  refine (take_nil _).mono ?_
  rintro e w2 ⟨rfl, ho2⟩
  have HO2 : Hid (Only Nobody w w2) := Lib.hid (HO1.out.trans (Only.trans (by repeat (first | exact Only.refl _ _ | refine Only.drew ?_ | refine Only.alloc ?_ _)) ho2))
  have HB2 := Lib.hid (ho2.blk (HB1.out.alloc _) (fun x => x))
  have HC2 := Lib.hid (ho2.blk (Blk.new w1 36 #[.int .i64 0, .string ⟨#[]⟩]) (fun x => x))
  clear ho2
  go_wp2_with fail
  refine (known_any _ (HT.out.same (HO2.out.alloc _))).mono ?_
  rintro e w3 ⟨rfl, ho3⟩
  have HO3 : Hid (Only Nobody w w3) := Lib.hid (HO2.out.trans (Only.trans (by repeat (first | exact Only.refl _ _ | refine Only.drew ?_ | refine Only.alloc ?_ _)) ho3))
  have HB3 := Lib.hid (ho3.blk (HB2.out.alloc _) (fun x => x))
  have HC3 := Lib.hid (ho3.blk (HC2.out.alloc _) (fun x => x))
  have HD3 := Lib.hid (ho3.blk (Blk.new w2 36 #[.int .i64 0, .string ⟨#[]⟩]) (fun x => x))
  have b0 : w3.cell? ⟨w.heap.size, 0, none⟩ = some (.int .i64 x.n) := HB3.out.cell 0
  have b1 : w3.cell? ⟨w.heap.size, 1, none⟩ = some (.string x.t) := HB3.out.cell 1
  clear ho3
  go_wp2_with fail
  refine (put_nil x _).mono ?_
  rintro e w4 ⟨rfl, ho4⟩
  have HO4 : Hid (Only Nobody w w4) := Lib.hid (HO3.out.trans ho4)
  have HB4 := Lib.hid (ho4.blk HB3.out (fun x => x))
  have HC4 := Lib.hid (ho4.blk HC3.out (fun x => x))
  have HD4 := Lib.hid (ho4.blk HD3.out (fun x => x))
  clear ho4 b0 b1
  have b0 : w4.cell? ⟨w.heap.size, 0, none⟩ = some (.int .i64 x.n) := HB4.out.cell 0
  have b1 : w4.cell? ⟨w.heap.size, 1, none⟩ = some (.string x.t) := HB4.out.cell 1
  go_wp2_with fail
  refine (ack_nil n _).mono ?_
  rintro e w' ⟨rfl, rfl⟩
  go_wp2_with fail
  refine (due_nil n m _).mono ?_
  rintro e w' ⟨rfl, rfl⟩
  go_wp2_with fail
  refine (pending_nil _).mono ?_
  rintro e w' ⟨rfl, rfl⟩
  go_wp2_with fail
  refine (acked_nil _).mono ?_
  rintro e w' ⟨rfl, rfl⟩
  go_wp2_with fail
  refine (last_nil _).mono ?_
  rintro e w' ⟨rfl, rfl⟩
  go_wp2_with fail
  refine (receive_nil x _).mono ?_
  rintro e w5 ⟨rfl, ho5⟩
  have HO5 : Hid (Only Nobody w w5) := Lib.hid (HO4.out.trans ho5)
  have hc := ho5.blk HC4.out (fun x => x)
  have hd := ho5.blk HD4.out (fun x => x)
  have c0 : w5.cell? ⟨w1.heap.size, 0, none⟩ = some (.int .i64 0) := hc.cell 0
  have c1 : w5.cell? ⟨w1.heap.size, 1, none⟩ = some (.string ⟨#[]⟩) := hc.cell 1
  have d0 : w5.cell? ⟨w2.heap.size, 0, none⟩ = some (.int .i64 0) := hd.cell 0
  have d1 : w5.cell? ⟨w2.heap.size, 1, none⟩ = some (.string ⟨#[]⟩) := hd.cell 1
  clear ho5 hc hd b0 b1
  go_wp2_with fail
  refine (taken_nil _).mono ?_
  rintro e w' ⟨rfl, rfl⟩
  go_wp2_with fail
  refine (held_nil _).mono ?_
  rintro e w' ⟨rfl, rfl⟩
  go_wp2_with fail
  go_ret
  exact ⟨rfl, HO5.out⟩

end Go.Proofs.YthmndclmecnpmaaDoor
