/- Exchange: contracts of the inbox's methods. -/
import Derived.Test.YthmndclmecnpmaaDoorExP
import Derived.WalkKit
import Derived.Lib.Hide
import Derived.Deep.QuietTactic
import Derived.BigQuiet
import Derived.Deep.RegionHeld3
import Derived.StillTailTactics
import Derived.BigRegion
import Derived.Deep.DrawnRows
import Derived.Deep.Cut
import Derived.Deep.CutRange
import Derived.Deep.DeepCutAuto
namespace Go.Proofs.YthmndclmecnpmaaDoor
open Go.RowKit
attribute [local go_sem ↓] Go.wp_at_zero Go.wp_at_succ

def inA (S : InS) : Array Value := (inL S).toArray
/-- An inbox in state S lies at block I. -/
def InAt (w : World) (I : Nat) (S : InS) : Prop := Blk w I 86 (inA S)

theorem InAt.c0 {w : World} {I : Nat} {S : InS} (h : InAt w I S) : w.cell? ⟨I, 0, none⟩ = some (.int .i64 S.taken) := h.cell 0
theorem InAt.c1 {w : World} {I : Nat} {S : InS} (h : InAt w I S) : w.cell? ⟨I, 1, none⟩ = some (.int .i64 S.held) := h.cell 1
theorem InAt.ring {w : World} {I : Nat} {S : InS} (h : InAt w I S) (i t : Nat) (hi : i < 64) (ht : t < 3) : w.cell? ⟨I, 2 + i * 3 + t, none⟩ = (slotC (S.ring i))[t]? := by
  have := h.cell (2 + i * 3 + t)
  rw [this]
  unfold inA
  rw [List.getElem?_toArray]
  exact inL_get S i t hi ht

set_option maxRecDepth 100000 in
set_option maxHeartbeats 1000000 in
theorem newInbox_ok (n : Nat) (hn : n ≤ 1099511627776) (w : World) : Calls Tryd.prog 13 #[.int .i64 (n : Int)] w fun e w' => e = .returned (.tuple #[.pointer (some ⟨w.heap.size, 0, none⟩), .int .i64 0]) ∧ InAt w' w.heap.size (newIn n) ∧ Below w.heap.size w w' := by
  have hi : (n : Int) ≤ 1099511627776 := by omega
  have h0 : (0 : Int) ≤ (n : Int) := by omega
  go_enter Tryd.func13, Tryd.ntmps13
  go_wp2_with fail
  go_ret2
  exact ⟨rfl, Blk.new w _ _, (Below.refl _ _).alloc (Nat.le_refl _) _⟩
set_option maxHeartbeats 1000000 in
theorem newInbox_bad (n : Int) (hn : ¬ (0 ≤ n ∧ n ≤ 1099511627776)) (w : World) : Calls Tryd.prog 13 #[.int .i64 n] w fun e w' => e = .returned (.tuple #[.pointer none, .int .i64 2]) ∧ w = w' := by
  by_cases h0 : n < 0
  · clear hn
    go_enter Tryd.func13, Tryd.ntmps13
    go_wp2_with fail
    go_ret2
    exact ⟨rfl, rfl⟩
  · have h1 : 1099511627776 < n := by omega
    clear hn
    go_enter Tryd.func13, Tryd.ntmps13
    go_wp2_with fail
    go_ret2
    exact ⟨rfl, rfl⟩

set_option maxHeartbeats 1000000 in
theorem taken_in (I : Nat) (S : InS) (w : World) (h : InAt w I S) : Calls Tryd.prog 20 #[.pointer (some ⟨I, 0, none⟩)] w fun e w' => e = .returned (.int .i64 S.taken) ∧ w = w' := by
  have hc := h.c0
  clear h
  go_enter Tryd.func20, Tryd.ntmps20
  go_wp2_with fail
  go_ret
  exact ⟨rfl, rfl⟩
set_option maxHeartbeats 1000000 in
theorem held_in (I : Nat) (S : InS) (w : World) (h : InAt w I S) : Calls Tryd.prog 21 #[.pointer (some ⟨I, 0, none⟩)] w fun e w' => e = .returned (.int .i64 S.held) ∧ w = w' := by
  have hc := h.c1
  clear h
  go_enter Tryd.func21, Tryd.ntmps21
  go_wp2_with fail
  go_ret
  exact ⟨rfl, rfl⟩

theorem blk_only {w w' : World} {I : Nat} {S : InS} (h : InAt w I S) {F : Nat → Prop} (ho : Only F w w') (hI : ¬ F I) : InAt w' I S := ho.blk h hI
theorem blk_same {w w' : World} {I : Nat} {S : InS} (h : InAt w I S) (ho : Only Nobody w w') : InAt w' I S := ho.blk h (fun x => x)
/-- The place of an item in the ring. -/
structure Spot (w : World) (I : Nat) (S : InS) (i : Nat) (a b c : Value) : Prop where
  lt : i < 64
  is : slotC (S.ring i) = [a, b, c]
  at_ : ∀ w', Only Nobody w w' → w'.cell? ⟨I, 0, none⟩ = some (.int .i64 S.taken) ∧ w'.cell? ⟨I, 2 + i * 3, none⟩ = some a ∧ w'.cell? ⟨I, 2 + i * 3 + 1, none⟩ = some b ∧ w'.cell? ⟨I, 2 + i * 3 + 2, none⟩ = some c
theorem spot {w : World} {I : Nat} {S : InS} (h : InAt w I S) {i : Nat} (hi : i < 64) {a b c : Value} (e : slotC (S.ring i) = [a, b, c]) : Spot w I S i a b c := by
  refine ⟨hi, e, fun w' ho => ?_⟩
  have h' := blk_only h ho (fun x => x)
  have c0 := h'.ring i 0 hi (by omega)
  have c1 := h'.ring i 1 hi (by omega)
  have c2 := h'.ring i 2 hi (by omega)
  rw [e] at c0 c1 c2
  exact ⟨h'.c0, c0, c1, c2⟩

def NextV (S : InS) : Value := match nextI S with
  | none => .tuple #[.agg #[.int .i64 0, .string ⟨#[]⟩], .bool false]
  | some x => .tuple #[.agg #[.int .i64 x.n, .string x.t], .bool true]
set_option maxRecDepth 100000 in
set_option maxHeartbeats 1000000 in
theorem next_in (I : Nat) (S : InS) (w : World) (h : InAt w I S) (ht : S.taken ≤ 2000000000000) : Calls Tryd.prog 14 #[.pointer (some ⟨I, 0, none⟩)] w fun e w' => e = .returned (NextV S) ∧ Only Nobody w w' := by
  obtain ⟨i, HI⟩ : ∃ i, Hid ((S.taken + 1) % 64 = i) := ⟨_, Lib.hid rfl⟩
  have hi : i < 64 := by rw [← HI.out]; exact Nat.mod_lt _ (by omega)
  have HN : Hid (nextI S = S.ring i) := Lib.hid (by unfold nextI; rw [HI.out])
  have hw1 : IntKind.i64.wrap ((S.taken : Int) + 1) = (S.taken : Int) + 1 := by rw [IntKind.wrap_i64]; omega
  have hmod : ((S.taken : Int) + 1).tmod 64 = (i : Int) := by rw [Int.tmod_eq_emod_of_nonneg (by omega)]; have := HI.out; omega
  have htI : (S.taken : Int) ≤ 2000000000000 := by omega
  have ht0 : (0 : Int) ≤ (S.taken : Int) := by omega
  have hiI : (i : Int) < 64 := by omega
  have hi0 : (0 : Int) ≤ (i : Int) := by omega
  cases hr : S.ring i with
  | some x =>
    have HV : Hid (NextV S = .tuple #[.agg #[.int .i64 x.n, .string x.t], .bool true]) := Lib.hid (by unfold NextV; rw [HN.out, hr])
    have HC := Lib.hid (spot h hi (by rw [hr]; rfl) : Spot w I S i (.int .i64 x.n) (.string x.t) (.bool true)).at_
    clear h ht hr
    go_enter Tryd.func14, Tryd.ntmps14
    go_wp2_with fail
    go_region_held3 (fun w' => w'.cell? ⟨I, 0, none⟩ = some (.int .i64 S.taken) ∧ w'.cell? ⟨I, 2 + i * 3, none⟩ = some (.int .i64 x.n) ∧ w'.cell? ⟨I, 2 + i * 3 + 1, none⟩ = some (.string x.t) ∧ w'.cell? ⟨I, 2 + i * 3 + 2, none⟩ = some (.bool true)) (exact HC.out _ (by repeat (first | exact Only.refl _ _ | refine Only.drew ?_ | refine Only.alloc ?_ _))) (fail)
    go_wp2_with fail
    exact bodyPost_ret (v := .tuple #[.agg #[.int .i64 x.n, .string x.t], .bool true]) (by simp [results, Tryd.results14, go_sem]) rfl ⟨by rw [HV.out], (by repeat (first | exact Only.refl _ _ | refine Only.drew ?_ | refine Only.alloc ?_ _))⟩
  | none =>
    have HV : Hid (NextV S = .tuple #[.agg #[.int .i64 0, .string ⟨#[]⟩], .bool false]) := Lib.hid (by unfold NextV; rw [HN.out, hr])
    have HC := Lib.hid (spot h hi (by rw [hr]; rfl) : Spot w I S i (.int .i64 0) (.string ⟨#[]⟩) (.bool false)).at_
    clear h ht hr
    go_enter Tryd.func14, Tryd.ntmps14
    go_wp2_with fail
    go_region_held3 (fun w' => w'.cell? ⟨I, 0, none⟩ = some (.int .i64 S.taken) ∧ w'.cell? ⟨I, 2 + i * 3, none⟩ = some (.int .i64 0) ∧ w'.cell? ⟨I, 2 + i * 3 + 1, none⟩ = some (.string ⟨#[]⟩) ∧ w'.cell? ⟨I, 2 + i * 3 + 2, none⟩ = some (.bool false)) (exact HC.out _ (by repeat (first | exact Only.refl _ _ | refine Only.drew ?_ | refine Only.alloc ?_ _))) (fail)
    go_wp2_with fail
    exact bodyPost_ret (v := .tuple #[.agg #[.int .i64 0, .string ⟨#[]⟩], .bool false]) (by simp [results, Tryd.results14, go_sem]) rfl ⟨by rw [HV.out], (by repeat (first | exact Only.refl _ _ | refine Only.drew ?_ | refine Only.alloc ?_ _))⟩
set_option maxHeartbeats 1000000 in
theorem next_nil (w : World) : Calls Tryd.prog 14 #[.pointer none] w fun e w' => e = .returned (.tuple #[.agg #[.int .i64 0, .string ⟨#[]⟩], .bool false]) ∧ Only Nobody w w' := by
  go_enter Tryd.func14, Tryd.ntmps14
  go_wp2_with fail
  exact bodyPost_ret (v := .tuple #[.agg #[.int .i64 0, .string ⟨#[]⟩], .bool false]) (by simp [results, Tryd.results14, go_sem]) rfl ⟨rfl, (by repeat (first | exact Only.refl _ _ | refine Only.drew ?_ | refine Only.alloc ?_ _))⟩

theorem inA_put {w : World} {I : Nat} {cs : Array Value} (h : Blk w I 86 cs) {l : List Value} (hl : cs.toList = l) {S' : InS} (hS : l = inL S') : InAt w I S' := by
  have : cs = inA S' := Array.toList_inj.1 (by rw [hl, hS]; rfl)
  subst this
  exact h
/-- What Take does to memory. -/
theorem took_in {w : World} {I : Nat} {S : InS} (h : InAt w I S) {i : Nat} (hi : i = (S.taken + 1) % 64) (h1 : 1 ≤ S.held) (w2 : World) (ho : Only Nobody (((w.setCell ⟨I, 0, none⟩ (.int .i64 ((S.taken : Int) + 1))).setCell ⟨I, 1, none⟩ (.int .i64 ((S.held : Int) - 1)))) w2) :
    InAt (((w2.setCell ⟨I, 2 + i * 3, none⟩ (.int .i64 0)).setCell ⟨I, 2 + i * 3 + 1, none⟩ (.string ⟨#[]⟩)).setCell ⟨I, 2 + i * 3 + 2, none⟩ (.bool false)) I (tookI S) := by
  have hi64 : i < 64 := by rw [hi]; exact Nat.mod_lt _ (by omega)
  have hb := ((((ho.blk ((h.set_ 0 (.int .i64 ((S.taken : Int) + 1))).set_ 1 (.int .i64 ((S.held : Int) - 1))) (fun x => x)).set_ (2 + i * 3) (.int .i64 0)).set_ (2 + i * 3 + 1) (.string ⟨#[]⟩)).set_ (2 + i * 3 + 2) (.bool false))
  refine inA_put hb (l := set3 (((inL S).set 0 (.int .i64 ((S.taken : Int) + 1))).set 1 (.int .i64 ((S.held : Int) - 1))) (2 + i * 3) (.int .i64 0) (.string ⟨#[]⟩) (.bool false)) (by simp [set3, inA]) ?_
  have e1 : inL (tookI S) = inL (({ S with taken := S.taken + 1, held := S.held - 1 } : InS).put i none) := by rw [hi]; rfl
  rw [e1, inL_put _ i hi64 none _ _ _ rfl]
  congr 1
  have e2 : ((S.held - 1 : Nat) : Int) = (S.held : Int) - 1 := by omega
  simp only [inL, List.set_cons_zero, List.set_cons_succ, e2, Int.natCast_add, Int.natCast_one]

def TakePost (I : Nat) (S : InS) (w : World) (e : Ending) (w' : World) : Prop := match nextI S with
  | none => e = .returned (.tuple #[.agg #[.int .i64 0, .string ⟨#[]⟩], .int .i64 8]) ∧ Only Nobody w w'
  | some x => e = .returned (.tuple #[.agg #[.int .i64 x.n, .string x.t], .int .i64 0]) ∧ InAt w' I (tookI S) ∧ Only (· = I) w w'
set_option maxRecDepth 100000 in
set_option maxHeartbeats 1000000 in
theorem take_in (I : Nat) (S : InS) (w : World) (h : InAt w I S) (ht : S.taken ≤ 2000000000000) (hh : ∀ x, nextI S = some x → 1 ≤ S.held) (hh2 : S.held ≤ 1000) : Calls Tryd.prog 15 #[.pointer (some ⟨I, 0, none⟩)] w (TakePost I S w) := by
  have HI := Lib.hid h
  have HH := Lib.hid hh
  clear h hh
  cases hn : nextI S with
  | none =>
    have HV : Hid (NextV S = .tuple #[.agg #[.int .i64 0, .string ⟨#[]⟩], .bool false]) := Lib.hid (by unfold NextV; rw [hn])
    have HP : Hid (TakePost I S w = fun e w' => e = .returned (.tuple #[.agg #[.int .i64 0, .string ⟨#[]⟩], .int .i64 8]) ∧ Only Nobody w w') := Lib.hid (by unfold TakePost; rw [hn])
    rw [HP.out]
    clear hn
    go_enter Tryd.func15, Tryd.ntmps15
    go_wp2_with fail
    refine (next_in I S _ (blk_same HI.out (by repeat (first | exact Only.refl _ _ | refine Only.drew ?_ | refine Only.alloc ?_ _))) ht).mono ?_
    rw [HV.out]
    rintro e w1 ⟨rfl, ho1⟩
    have HO1 := Lib.hid (Only.trans (by repeat (first | exact Only.refl _ _ | refine Only.drew ?_ | refine Only.alloc ?_ _)) ho1 : Only Nobody w w1)
    have hz : w.heap.size < w1.heap.size := by have := ho1.size; simp at this; omega
    have hb : Blk w1 w.heap.size 36 #[.int .i64 0, .string ⟨#[]⟩] := ho1.blk (Blk.new w _ _) (fun x => x)
    have hb0 := hb.cell 0
    have hb1 := hb.cell 1
    have hf0 := hb.frozen 0
    have hf1 := hb.frozen 1
    simp at hb0 hb1
    clear ho1 hb
    go_wp2_with fail
    exact bodyPost_ret (v := .tuple #[.agg #[.int .i64 0, .string ⟨#[]⟩], .int .i64 8]) (by simp [results, Tryd.results15, go_sem, hb0, hb1, hz]) rfl ⟨rfl, ((HO1.out.setCell (.inr (Nat.le_refl _)) _).setCell (.inr (Nat.le_refl _)) _).alloc _⟩
  | some x =>
    have hh1 := HH.out x hn
    have HV : Hid (NextV S = .tuple #[.agg #[.int .i64 x.n, .string x.t], .bool true]) := Lib.hid (by unfold NextV; rw [hn])
    have HP : Hid (TakePost I S w = fun e w' => e = .returned (.tuple #[.agg #[.int .i64 x.n, .string x.t], .int .i64 0]) ∧ InAt w' I (tookI S) ∧ Only (· = I) w w') := Lib.hid (by unfold TakePost; rw [hn])
    rw [HP.out]
    obtain ⟨i, HIX⟩ : ∃ i, Hid (i = (S.taken + 1) % 64) := ⟨_, Lib.hid rfl⟩
    have hi : i < 64 := by rw [HIX.out]; exact Nat.mod_lt _ (by omega)
    have hr : S.ring i = some x := by rw [HIX.out]; exact hn
    have hmod : ((S.taken : Int) + 1).tmod 64 = (i : Int) := by rw [Int.tmod_eq_emod_of_nonneg (by omega)]; have := HIX.out; omega
    have htI : (S.taken : Int) ≤ 2000000000000 := by omega
    have ht0 : (0 : Int) ≤ (S.taken : Int) := by omega
    have hh0 : (1 : Int) ≤ (S.held : Int) := by omega
    have hh3 : (S.held : Int) ≤ 1000 := by omega
    have hiI : (i : Int) < 64 := by omega
    have hi0 : (0 : Int) ≤ (i : Int) := by omega
    clear hn
    go_enter Tryd.func15, Tryd.ntmps15
    go_wp2_with fail
    refine (next_in I S _ (blk_same HI.out (by repeat (first | exact Only.refl _ _ | refine Only.drew ?_ | refine Only.alloc ?_ _))) ht).mono ?_
    rw [HV.out]
    rintro e w1 ⟨rfl, ho1⟩
    have HO1 := Lib.hid (Only.trans (by repeat (first | exact Only.refl _ _ | refine Only.drew ?_ | refine Only.alloc ?_ _)) ho1 : Only Nobody w w1)
    have hz : w.heap.size < w1.heap.size := by have := ho1.size; simp at this; omega
    have hb : Blk w1 w.heap.size 36 #[.int .i64 0, .string ⟨#[]⟩] := ho1.blk (Blk.new w _ _) (fun x => x)
    have HBX := Lib.hid hb
    have HIA := Lib.hid (blk_same HI.out HO1.out)
    have hIz : I < w1.heap.size := HIA.out.lt
    have hIw : I < w.heap.size := HI.out.lt
    have hIn : I ≠ w.heap.size := by omega
    have k0 := HIA.out.c0
    have k1 := HIA.out.c1
    have f0 : w1.frozen? ⟨I, 0, none⟩ = false := HIA.out.frozen 0
    have f1 : w1.frozen? ⟨I, 1, none⟩ = false := HIA.out.frozen 1
    obtain ⟨W2, HW2⟩ : ∃ W2, Hid (W2 = ((w1.setCell ⟨I, 0, none⟩ (.int .i64 ((S.taken : Int) + 1))).setCell ⟨I, 1, none⟩ (.int .i64 ((S.held : Int) - 1))).alloc (.cells #[.int .i64 x.n, .string x.t] 36)) := ⟨_, Lib.hid rfl⟩
    have HO2 : Hid (Only Nobody ((w1.setCell ⟨I, 0, none⟩ (.int .i64 ((S.taken : Int) + 1))).setCell ⟨I, 1, none⟩ (.int .i64 ((S.held : Int) - 1))) W2) := Lib.hid (by rw [HW2.out]; exact (Only.refl _ _).alloc _)
    have HOW : Hid (Only (· = I) w W2) := Lib.hid (by
      have h1 : Only (· = I) w w1 := HO1.out.mono (fun _ x => x.elim)
      have h2 := (h1.setCell (p := ⟨I, 0, none⟩) (.inl rfl) (.int .i64 ((S.taken : Int) + 1))).setCell (p := ⟨I, 1, none⟩) (.inl rfl) (.int .i64 ((S.held : Int) - 1))
      exact h2.trans (HO2.out.mono (fun _ x => x.elim)))
    have hsz2 : (((w1.setCell ⟨I, 0, none⟩ (.int .i64 ((S.taken : Int) + 1))).setCell ⟨I, 1, none⟩ (.int .i64 ((S.held : Int) - 1)))).heap.size = w1.heap.size := by simp
    have HBx : Hid (Blk W2 w1.heap.size 36 #[.int .i64 x.n, .string x.t]) := Lib.hid (by
      rw [HW2.out]
      have := Blk.new (((w1.setCell ⟨I, 0, none⟩ (.int .i64 ((S.taken : Int) + 1))).setCell ⟨I, 1, none⟩ (.int .i64 ((S.held : Int) - 1)))) 36 #[.int .i64 x.n, .string x.t]
      rwa [hsz2] at this)
    have HBr : Hid (Blk W2 w.heap.size 36 #[.int .i64 0, .string ⟨#[]⟩]) := Lib.hid (HO2.out.blk ((HBX.out.far (by show w.heap.size ≠ I; omega) _).far (by show w.heap.size ≠ I; omega) _) (fun x => x))
    have hBI := HO2.out.blk ((HIA.out.set_ 0 (.int .i64 ((S.taken : Int) + 1))).set_ 1 (.int .i64 ((S.held : Int) - 1))) (fun x => x)
    have c0 : W2.cell? ⟨I, 0, none⟩ = some (.int .i64 ((S.taken : Int) + 1)) := hBI.cell 0
    have hrc : ∀ t, t < 3 → W2.cell? ⟨I, 2 + i * 3 + t, none⟩ = (slotC (S.ring i))[t]? := fun t ht => by
      have h1 := HIA.out.ring i t hi ht
      rw [HIA.out.cell] at h1
      rw [hBI.cell, Array.getElem?_setIfInBounds_ne (by omega), Array.getElem?_setIfInBounds_ne (by omega)]
      exact h1
    have r0 := hrc 0 (by omega)
    have r1 := hrc 1 (by omega)
    have r2 := hrc 2 (by omega)
    rw [hr] at r0 r1 r2
    simp only [slotC, List.getElem?_cons_zero, List.getElem?_cons_succ, Nat.add_zero] at r0 r1 r2
    have g0 : W2.frozen? ⟨I, 2 + i * 3, none⟩ = false := hBI.frozen _
    have g1 : W2.frozen? ⟨I, 2 + i * 3 + 1, none⟩ = false := hBI.frozen _
    have g2 : W2.frozen? ⟨I, 2 + i * 3 + 2, none⟩ = false := hBI.frozen _
    have HTK : Hid (∀ W3, Only Nobody W2 W3 → InAt (((W3.setCell ⟨I, 2 + i * 3, none⟩ (.int .i64 0)).setCell ⟨I, 2 + i * 3 + 1, none⟩ (.string ⟨#[]⟩)).setCell ⟨I, 2 + i * 3 + 2, none⟩ (.bool false)) I (tookI S)) := Lib.hid fun W3 ho3 => took_in HIA.out HIX.out hh1 W3 (HO2.out.trans ho3)
    clear ho1 hb hBI hrc hr hsz2
    go_upto_region 8 with fail
    rw [← HW2.out]
    clear k0 k1 f0 f1
    go_cut [] (fun wx => InAt wx I (tookI S) ∧ Only (· = I) W2 wx)
    case first =>
      go_region
      all_goals
        go_wp2_with fail
        go_meet
        exact ⟨HTK.out W2 (Only.refl _ _), ((((Only.refl (· = I) W2).setCell (p := ⟨I, 2 + i * 3, none⟩) (.inl rfl) _).setCell (p := ⟨I, 2 + i * 3 + 1, none⟩) (.inl rfl) _).setCell (p := ⟨I, 2 + i * 3 + 2, none⟩) (.inl rfl) _).drew⟩
    case rest =>
      obtain ⟨hin, hon⟩ := hcut
      have HIN := Lib.hid hin
      have HON := Lib.hid hon
      have hx := hon.blk HBx.out (by show ¬ w1.heap.size = I; omega)
      have hy := hon.blk HBr.out (by show ¬ w.heap.size = I; omega)
      have HY := Lib.hid hy
      have x0 := hx.cell 0
      have x1 := hx.cell 1
      have y0 := hy.cell 0
      have y1 := hy.cell 1
      have fy0 := hy.frozen 0
      have fy1 := hy.frozen 1
      simp only [List.getElem?_toArray, List.getElem?_cons_zero, List.getElem?_cons_succ] at x0 x1 y0 y1
      clear hin hon hx hy c0 r0 r1 r2 g0 g1 g2
      go_wp2_with fail
      exact bodyPost_ret (v := .tuple #[.agg #[.int .i64 x.n, .string x.t], .int .i64 0]) (by simp [results, Tryd.results15, go_sem, y0, y1]) rfl ⟨rfl, (HIN.out.far (show I ≠ w.heap.size from hIn) _).far (show I ≠ w.heap.size from hIn) _, ((HOW.out.trans HON.out).setCell (.inr (Nat.le_refl _)) _).setCell (.inr (Nat.le_refl _)) _⟩
set_option maxHeartbeats 1000000 in
theorem take_nil (w : World) : Calls Tryd.prog 15 #[.pointer none] w fun e w' => e = .returned (.tuple #[.agg #[.int .i64 0, .string ⟨#[]⟩], .int .i64 1]) ∧ Only Nobody w w' := by
  go_enter Tryd.func15, Tryd.ntmps15
  go_wp2_with fail
  exact bodyPost_ret (v := .tuple #[.agg #[.int .i64 0, .string ⟨#[]⟩], .int .i64 1]) (by simp [results, Tryd.results15, go_sem]) rfl ⟨rfl, (by repeat (first | exact Only.refl _ _ | refine Only.drew ?_ | refine Only.alloc ?_ _))⟩
set_option maxHeartbeats 1000000 in
theorem taken_nil (w : World) : Calls Tryd.prog 20 #[.pointer none] w fun e w' => e = .returned (.int .i64 0) ∧ w = w' := by
  go_enter Tryd.func20, Tryd.ntmps20
  go_wp2_with fail
  go_ret
  exact ⟨rfl, rfl⟩
set_option maxHeartbeats 1000000 in
theorem held_nil (w : World) : Calls Tryd.prog 21 #[.pointer none] w fun e w' => e = .returned (.int .i64 0) ∧ w = w' := by
  go_enter Tryd.func21, Tryd.ntmps21
  go_wp2_with fail
  go_ret
  exact ⟨rfl, rfl⟩
set_option maxHeartbeats 1000000 in
theorem receive_nil (x : It) (w : World) : Calls Tryd.prog 18 #[.pointer none, .agg #[.int .i64 x.n, .string x.t]] w fun e w' => e = .returned (.int .i64 1) ∧ Only Nobody w w' := by
  go_enter Tryd.func18, Tryd.ntmps18
  go_wp2_with fail
  go_ret
  exact ⟨rfl, (by repeat (first | exact Only.refl _ _ | refine Only.drew ?_ | refine Only.alloc ?_ _))⟩


end Go.Proofs.YthmndclmecnpmaaDoor
