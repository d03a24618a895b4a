/- The walk of the law ExchangeFull. -/
import Derived.Test.YthmndclmecnpmaaDoorExK
import Derived.Test.YthmndclmecnpmaaDoorOxC
namespace Go.Proofs.YthmndclmecnpmaaDoor
open Go.RowKit
attribute [local go_sem ↓] Go.wp_at_zero Go.wp_at_succ

def fuS (a i : Nat) : Snd := ⟨⟨((a + (i + 1) : Nat) : Int), ByteArray.empty⟩, false, 0⟩
def fuL (a k : Nat) : List Snd := (List.range k).map (fuS a)
theorem fuL_len (a k : Nat) : (fuL a k).length = k := by simp [fuL]
theorem fuL_succ (a k : Nat) : fuL a (k + 1) = fuL a k ++ [fuS a k] := by simp [fuL, List.range_succ]
theorem fu_put (a k : Nat) (ha : a ≤ 255) (hk : k < 4096) : putO ⟨a, fuL a k⟩ (fuS a k).x = (0, ⟨a, fuL a (k + 1)⟩) := by
  unfold putO OutS.last
  simp only [fuL_len, fuL_succ]
  rw [if_neg (by show ¬ (((a + (k + 1) : Nat) : Int) ≠ ((a + k : Nat) : Int) + 1); omega), if_neg (by show ¬ (1099511627776 < ((a + (k + 1) : Nat) : Int)); omega), if_neg (by show ¬ 65536 < ByteArray.empty.size; decide), if_neg (by omega)]
  rfl
theorem fu_full (a : Nat) (ha : a ≤ 255) : putO ⟨a, fuL a 4096⟩ (fuS a 4096).x = (9, ⟨a, fuL a 4096⟩) := by
  unfold putO OutS.last
  simp only [fuL_len]
  rw [if_neg (by show ¬ (((a + (4096 + 1) : Nat) : Int) ≠ ((a + 4096 : Nat) : Int) + 1); omega), if_neg (by show ¬ (1099511627776 < ((a + (4096 + 1) : Nat) : Int)); omega), if_neg (by show ¬ 65536 < ByteArray.empty.size; decide), if_pos (by omega)]

/-- What the three calls of Due return, and leave. -/
def Un (L : List Snd) : Prop := L.length = 4096 ∧ ∀ y ∈ L, y.sent = false
def Mk (L : List Snd) : Prop := L.length = 4096 ∧ ∀ y ∈ L.take 64, y.sent = true ∧ y.at_ = 0
theorem fu_un (a : Nat) : Un (fuL a 4096) := ⟨fuL_len a 4096, fun y hy => by
  obtain ⟨i, _, rfl⟩ := List.mem_map.1 hy
  rfl⟩
theorem due_all {now iv : Int} {k : Nat} {L : List Snd} (h : ∀ y ∈ L.take k, dueB now iv y = true) (hk : k ≤ L.length) : (dueTo now iv k L).length = k := by
  unfold dueTo
  rw [List.filter_eq_self.2 h, List.length_map, List.length_take]
  omega
theorem due_none {now iv : Int} {k : Nat} {L : List Snd} (h : ∀ y ∈ L.take k, dueB now iv y = false) : (dueTo now iv k L).length = 0 := by
  unfold dueTo
  rw [List.filter_eq_nil_iff.2 (fun y hy => by rw [h y hy]; simp)]
  rfl
theorem mark_none {now iv : Int} {k : Nat} {L : List Snd} (h : ∀ y ∈ L.take k, dueB now iv y = false) : markTo now iv k L = L := by
  unfold markTo
  have : (L.take k).map (mark now iv) = L.take k := by
    conv => rhs; rw [← List.map_id (L.take k)]
    apply List.map_congr_left
    intro y hy
    unfold mark
    rw [h y hy]
    rfl
  rw [this, List.take_append_drop]
theorem un_due {L : List Snd} (h : Un L) : (dueTo 0 5 64 L).length = 64 ∧ Mk (markTo 0 5 64 L) := by
  have hd : ∀ y ∈ L.take 64, dueB 0 5 y = true := fun y hy => by
    unfold dueB
    rw [h.2 y (List.mem_of_mem_take hy)]
    rfl
  refine ⟨due_all hd (by rw [h.1]; omega), by rw [markTo_len]; exact h.1, ?_⟩
  intro y hy
  unfold markTo at hy
  rw [List.take_append, List.length_map, List.length_take, h.1] at hy
  simp only [show min 64 4096 = 64 by omega, Nat.sub_self, List.take_zero, List.append_nil] at hy
  have hy := List.mem_of_mem_take hy
  obtain ⟨z, hz, rfl⟩ := List.mem_map.1 hy
  unfold mark
  rw [if_pos (hd z hz)]
  exact ⟨rfl, rfl⟩
theorem mk_four {L : List Snd} (h : Mk L) : (dueTo 4 5 64 L).length = 0 ∧ markTo 4 5 64 L = L := by
  have hd : ∀ y ∈ L.take 64, dueB 4 5 y = false := fun y hy => by
    unfold dueB
    rw [(h.2 y hy).1, (h.2 y hy).2]
    decide
  exact ⟨due_none hd, mark_none hd⟩
theorem mk_five {L : List Snd} (h : Mk L) : (dueTo 5 5 64 L).length = 64 ∧ (markTo 5 5 64 L).length = 4096 := by
  have hd : ∀ y ∈ L.take 64, dueB 5 5 y = true := fun y hy => by
    unfold dueB
    rw [(h.2 y hy).1, (h.2 y hy).2]
    decide
  exact ⟨due_all hd (by rw [h.1]; omega), by rw [markTo_len]; exact h.1⟩
theorem fu_ack (a : Nat) (L : List Snd) (h : L.length = 4096) : ackO ⟨a, L⟩ ((a : Int) + 1) = (0, ⟨a + 1, L.drop 1⟩) := by
  unfold ackO OutS.last
  rw [if_neg (by show ¬ ((a : Int) + 1 ≤ (a : Int)); omega), if_neg (by show ¬ (((a + L.length : Nat) : Int) < (a : Int) + 1); rw [h]; omega)]
  rw [show ((a : Int) + 1).toNat = a + 1 by omega]
  show (0, (⟨a + 1, L.drop (a + 1 - a)⟩ : OutS)) = _
  rw [show a + 1 - a = 1 by omega]
theorem fu_last (a : Nat) (L : List Snd) (ha : a ≤ 255) (h : L.length = 4096) : (putO ⟨a + 1, L.drop 1⟩ (fuS a 4096).x).1 = 0 := by
  unfold putO OutS.last
  rw [if_neg (by show ¬ (((a + (4096 + 1) : Nat) : Int) ≠ (((a + 1) + (L.drop 1).length : Nat) : Int) + 1); rw [List.length_drop, h]; omega), if_neg (by show ¬ (1099511627776 < ((a + (4096 + 1) : Nat) : Int)); omega), if_neg (by show ¬ 65536 < ByteArray.empty.size; decide), if_neg (by show ¬ 4096 ≤ (L.drop 1).length; rw [List.length_drop, h]; omega)]

theorem own_keep {w0 : World} {w : World} {v v' : Value} (hF : ∀ b, v.ownBlock = some b → w0.heap.size ≤ b) (ho : Only Nobody w0 w) (h : v'.ownBlock = v.ownBlock ∨ ∃ g, v'.ownBlock = some g ∧ w.heap.size ≤ g) : ∀ b, v'.ownBlock = some b → w0.heap.size ≤ b := by
  intro b hb
  rcases h with e | ⟨g, e, hg⟩
  · exact hF b (by rw [← e]; exact hb)
  · rw [e] at hb
    injection hb with hb
    have := ho.size
    omega
theorem only_keep {w0 w w' : World} {O : Nat} {v : Value} (ho : Only Nobody w0 w) (hO : w0.heap.size ≤ O) (hF : ∀ b, v.ownBlock = some b → w0.heap.size ≤ b) (h : Only (OwnO O v) w w') : Only Nobody w0 w' :=
  ho.trans_more (h.mono (fun x hx => .inr (by rcases hx with e | e; omega; exact hF x e)))

theorem due_fu (O a : Nat) (L L' : List Snd) (v : Value) (now iv : Int) (m : Nat) (hn : -1000000 ≤ now ∧ now ≤ 1000000) (hi : -1000000 ≤ iv ∧ iv ≤ 1000000) (w : World) (h : OutAt w O ⟨a, L⟩ v) (hl : L.length = 4096) (hm : (dueTo now iv 64 L).length = m) (hL : markTo now iv 64 L = L') :
    Calls Tryd.prog 25 #[.pointer (some ⟨O, 0, none⟩), .int .i64 now, .int .i64 iv] w fun e w' => (∃ A c, e = .returned (.slice A m c)) ∧ OutAt w' O ⟨a, L'⟩ v ∧ Only (OwnO O v) w w' :=
  (due_ox O ⟨a, L⟩ v now iv hn hi w h (by show L.length ≤ _; omega)).mono fun e w' ⟨vo, he, ho, hx, hw⟩ => by
    have hmin : min L.length 64 = 64 := by omega
    rw [show (⟨a, L⟩ : OutS).l = L from rfl, hmin, hL] at hx
    rw [show (⟨a, L⟩ : OutS).l = L from rfl, hmin] at ho
    obtain ⟨A, c, rfl⟩ := own_form ho
    rw [hm] at he
    exact ⟨⟨A, c, he⟩, hx, hw⟩
set_option maxRecDepth 100000 in
set_option maxHeartbeats 4000000 in
theorem lawFull (a : Nat) (ha : a ≤ 255) (w : World) (ht : CalTab w) : Calls Tryd.prog 5 #[.int .u8 (a : Int)] w fun e w' => e = .returned (.bool true) ∧ Only Nobody w w' := by
  have HT := Lib.hid ht
  clear ht
  have haI : (a : Int) ≤ 255 := by omega
  have ha0 : (0 : Int) ≤ (a : Int) := by omega
  go_enter Tryd.func5, Tryd.ntmps5
  go_wp2_with fail
  refine (newOutbox_ok a (by omega) _).mono ?_
  rintro e w1 ⟨rfl, hx1, hb1⟩
  obtain ⟨O, HOO⟩ : ∃ O, Hid (O = w.heap.size) := ⟨_, Lib.hid rfl⟩
  rw [← HOO.out] at hx1 ⊢
  have HX1 := Lib.hid hx1
  have HO1 : Hid (Only Nobody w w1) := Lib.hid (Only.of_below hb1 Nobody)
  clear hx1 hb1
  go_wp2_with fail
  refine (known_any _ (HT.out.same HO1.out)).mono ?_
  rintro e w2 ⟨rfl, ho2⟩
  have HX2 := Lib.hid (HX1.out.same ho2)
  have HO2 : Hid (Only Nobody w w2) := Lib.hid (HO1.out.trans ho2)
  clear ho2
  go_wp2_with fail
  go_loopw [5] (fun i wx => ∃ (k : Nat) (v : Value), i = .int .i64 ((k : Int) + 1) ∧ k ≤ 4096 ∧ Hid (OutAt wx O ⟨a, fuL a k⟩ v) ∧ Hid (∀ b, v.ownBlock = some b → w.heap.size ≤ b) ∧ Hid (Only Nobody w wx)) (fun i _ => 5000 - (intOf i).toNat)
  case atStart => exact ⟨0, .slice none 0 0, rfl, by omega, HX2, Lib.hid (fun b e => by cases e), HO2⟩
  case round =>
    obtain ⟨k, v, rfl, hk, HX, HF, HO⟩ := hrel
    by_cases hk2 : k < 4096
    · have hkI : (k : Int) + 1 ≤ 4096 := by omega
      have hk0 : (0 : Int) ≤ (k : Int) := by omega
      have hw1 : IntKind.i64.wrap ((a : Int) + ((k : Int) + 1)) = (a : Int) + ((k : Int) + 1) := by rw [IntKind.wrap_i64]; omega
      have hw2 : IntKind.i64.wrap ((k : Int) + 1 + 1) = (k : Int) + 1 + 1 := by rw [IntKind.wrap_i64]; omega
      have hnI : (a : Int) + ((k : Int) + 1) = (fuS a k).x.n := by show _ = ((a + (k + 1) : Nat) : Int); omega
      have HP : Hid (Calls Tryd.prog 24 #[.pointer (some ⟨O, 0, none⟩), .agg #[.int .i64 ((a : Int) + ((k : Int) + 1)), .string ByteArray.empty]] wr (PutPost O v (0, ⟨a, fuL a (k + 1)⟩) wr)) := Lib.hid (by
        have := put_ox O ⟨a, fuL a k⟩ v (fuS a k).x wr HX.out (by show a ≤ _; omega) (by show (fuL a k).length ≤ _; rw [fuL_len]; omega)
        rw [fu_put a k ha hk2] at this
        rw [hnI]
        exact this)
      clear hnI
      go_wp2_with fail
      refine (HP.out).mono ?_
      rintro e w3 ⟨rfl, v3, hx3, ho3, hv3⟩
      have HX3 := Lib.hid hx3
      have HF3 : Hid (∀ b, v3.ownBlock = some b → w.heap.size ≤ b) := Lib.hid (own_keep HF.out HO.out hv3)
      have HO3 : Hid (Only Nobody w w3) := Lib.hid (only_keep HO.out (by rw [HOO.out]; exact Nat.le_refl _) HF.out ho3)
      clear hx3 ho3 hv3
      go_wp2_with fail
      go_roundw
      case rel =>
        first
        | exact ⟨k + 1, v3, by go_num, by omega, HX3, HF3, HO3⟩
        | ((repeat apply Exists.intro); exact ⟨⟨k + 1, v3, by go_num, by omega, HX3, HF3, HO3⟩, rfl⟩)
      case measure => simp [intOf]; omega
    · obtain rfl : k = 4096 := by omega
      have hkI : ¬ ((4096 : Nat) : Int) + 1 ≤ 4096 := by omega
      have hw1 : IntKind.i64.wrap ((a : Int) + 4096) = (a : Int) + 4096 := by rw [IntKind.wrap_i64]; omega
      have hw2 : IntKind.i64.wrap ((a : Int) + 4096 + 1) = (a : Int) + 4096 + 1 := by rw [IntKind.wrap_i64]; omega
      have hw3 : IntKind.i64.wrap ((a : Int) + 1) = (a : Int) + 1 := by rw [IntKind.wrap_i64]; omega
      have hnI : (a : Int) + 4096 + 1 = (fuS a 4096).x.n := by show _ = ((a + (4096 + 1) : Nat) : Int); omega
      have HPU : Hid (∀ S v w', S.acked ≤ 300 → S.l.length ≤ 5000 → OutAt w' O S v → Calls Tryd.prog 24 #[.pointer (some ⟨O, 0, none⟩), .agg #[.int .i64 ((a : Int) + 4096 + 1), .string ByteArray.empty]] w' (PutPost O v (putO S (fuS a 4096).x) w')) := Lib.hid (by
        intro S v w' h1 h2 h3
        rw [hnI]
        exact put_ox O S v (fuS a 4096).x w' h3 (by omega) h2)
      have HFU := Lib.hid (fuL_len a 4096)
      have HUN := Lib.hid (fu_un a)
      have HPF := Lib.hid (fu_full a ha)
      obtain ⟨L, HL⟩ : ∃ L, Hid (L = fuL a 4096) := ⟨_, Lib.hid rfl⟩
      rw [← HL.out] at HX HFU HUN HPF
      obtain ⟨d1, m1⟩ := un_due HUN.out
      have HD1 := Lib.hid d1
      have HM1 := Lib.hid m1
      clear hnI hk hk2 d1 m1
      go_wp2_with fail
      refine (HPU.out ⟨a, L⟩ v _ (by show a ≤ _; omega) (by show L.length ≤ _; rw [HFU.out]; omega) HX.out).mono ?_
      rw [HPF.out]
      rintro e w3 ⟨rfl, v3, hx3, ho3, hv3⟩
      have HX3 := Lib.hid hx3
      have HF3 : Hid (∀ b, v3.ownBlock = some b → w.heap.size ≤ b) := Lib.hid (own_keep HF.out HO.out hv3)
      have HO3 : Hid (Only Nobody w w3) := Lib.hid (only_keep HO.out (by rw [HOO.out]; exact Nat.le_refl _) HF.out ho3)
      clear hx3 ho3 hv3
      go_wp2_with fail
      refine (due_fu O a L _ v3 0 5 64 (by omega) (by omega) _ HX3.out HFU.out HD1.out rfl).mono ?_
      rintro e w4 ⟨⟨A4, c4, rfl⟩, hx4, ho4⟩
      obtain ⟨L1, HL1⟩ : ∃ L1, Hid (L1 = markTo 0 5 64 L) := ⟨_, Lib.hid rfl⟩
      rw [← HL1.out] at hx4 HM1
      have HX4 := Lib.hid hx4
      have HO4 : Hid (Only Nobody w w4) := Lib.hid (only_keep HO3.out (by rw [HOO.out]; exact Nat.le_refl _) HF3.out ho4)
      obtain ⟨d2, e2⟩ := mk_four HM1.out
      have HD2 := Lib.hid d2
      have HE2 := Lib.hid e2
      clear hx4 ho4 d2 e2
      go_wp2_with fail
      refine (due_fu O a L1 L1 v3 4 5 0 (by omega) (by omega) _ HX4.out HM1.out.1 HD2.out HE2.out).mono ?_
      rintro e w5 ⟨⟨A5, c5, rfl⟩, hx5, ho5⟩
      have HX5 := Lib.hid hx5
      have HO5 : Hid (Only Nobody w w5) := Lib.hid (only_keep HO4.out (by rw [HOO.out]; exact Nat.le_refl _) HF3.out ho5)
      obtain ⟨d3, e3⟩ := mk_five HM1.out
      have HD3 := Lib.hid d3
      have HE3 := Lib.hid e3
      clear hx5 ho5 d3 e3
      go_wp2_with fail
      refine (due_fu O a L1 _ v3 5 5 64 (by omega) (by omega) _ HX5.out HM1.out.1 HD3.out rfl).mono ?_
      rintro e w6 ⟨⟨A6, c6, rfl⟩, hx6, ho6⟩
      obtain ⟨L2, HL2⟩ : ∃ L2, Hid (L2 = markTo 5 5 64 L1) := ⟨_, Lib.hid rfl⟩
      rw [← HL2.out] at hx6 HE3
      have HX6 := Lib.hid hx6
      have HO6 : Hid (Only Nobody w w6) := Lib.hid (only_keep HO5.out (by rw [HOO.out]; exact Nat.le_refl _) HF3.out ho6)
      clear hx6 ho6
      go_wp2_with fail
      refine (ack_ox O ⟨a, L2⟩ v3 ((a : Int) + 1) _ HX6.out (by show a ≤ _; omega) (by show L2.length ≤ _; rw [HE3.out]; omega)).mono ?_
      rw [fu_ack a L2 HE3.out]
      rintro e w7 ⟨rfl, v7, hx7, ho7, hv7⟩
      have HX7 := Lib.hid hx7
      have HO7 : Hid (Only Nobody w w7) := Lib.hid (only_keep (v := v3) HO6.out (by rw [HOO.out]; exact Nat.le_refl _) HF3.out (ho7.mono (fun x e => .inl e)))
      have HF7 : Hid (∀ b, v7.ownBlock = some b → w.heap.size ≤ b) := Lib.hid (fun b e => HF3.out b (by rw [← hv7]; exact e))
      have HLA := Lib.hid (fu_last a L2 ha HE3.out)
      clear hx7 ho7 hv7
      go_wp2_with fail
      refine (HPU.out ⟨a + 1, L2.drop 1⟩ v7 _ (by show a + 1 ≤ _; omega) (by show (L2.drop 1).length ≤ _; rw [List.length_drop, HE3.out]; omega) HX7.out).mono ?_
      rintro e w8 ⟨he, v8, _, ho8, _⟩
      rw [HLA.out] at he
      subst he
      have HO8 : Hid (Only Nobody w w8) := Lib.hid (only_keep HO7.out (by rw [HOO.out]; exact Nat.le_refl _) HF7.out ho8)
      clear ho8
      go_wp2_with fail
      go_ret
      exact ⟨rfl, HO8.out⟩
end Go.Proofs.YthmndclmecnpmaaDoor
