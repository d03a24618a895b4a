/- Exchange: the contract of the inbox's Receive. -/
import Derived.Test.YthmndclmecnpmaaDoorExA
namespace Go.Proofs.YthmndclmecnpmaaDoor
open Go.RowKit
attribute [local go_sem ↓] Go.wp_at_zero Go.wp_at_succ

/-- What Receive does to memory. -/
theorem recv_mem {w : World} {I : Nat} {S : InS} (h : InAt w I S) {i : Nat} (hi : i < 64) (x : It) :
    InAt ((((w.setCell ⟨I, 2 + i * 3, none⟩ (.int .i64 x.n)).setCell ⟨I, 2 + i * 3 + 1, none⟩ (.string x.t)).setCell ⟨I, 2 + i * 3 + 2, none⟩ (.bool true)).setCell ⟨I, 1, none⟩ (.int .i64 ((S.held : Int) + 1))) I { S.put i (some x) with held := S.held + 1 } := by
  have hb := (((h.set_ (2 + i * 3) (.int .i64 x.n)).set_ (2 + i * 3 + 1) (.string x.t)).set_ (2 + i * 3 + 2) (.bool true)).set_ 1 (.int .i64 ((S.held : Int) + 1))
  refine inA_put hb (l := (set3 (inL S) (2 + i * 3) (.int .i64 x.n) (.string x.t) (.bool true)).set 1 (.int .i64 ((S.held : Int) + 1))) (by simp [set3, inA]) ?_
  rw [← inL_put S i hi (some x) _ _ _ rfl]
  rfl
def RecvPost (I : Nat) (r : Int × InS) (w : World) (e : Ending) (w' : World) : Prop := e = .returned (.int .i64 r.1) ∧ InAt w' I r.2 ∧ Only (· = I) w w'
theorem itb (w : World) (x : It) : ∀ w', Only Nobody (w.alloc (.cells #[.int .i64 x.n, .string x.t] 36)) w' → w'.cell? ⟨w.heap.size, 0, none⟩ = some (.int .i64 x.n) ∧ w'.cell? ⟨w.heap.size, 1, none⟩ = some (.string x.t) := fun _ ho =>
  ⟨(ho.blk (Blk.new w _ _) (fun x => x)).cell 0, (ho.blk (Blk.new w _ _) (fun x => x)).cell 1⟩
set_option maxRecDepth 100000 in
set_option maxHeartbeats 2000000 in
theorem receive_in (I : Nat) (S : InS) (x : It) (w : World) (h : InAt w I S) (ht : S.taken ≤ 2000000000000) (hh : S.held ≤ 1000) : Calls Tryd.prog 18 #[.pointer (some ⟨I, 0, none⟩), .agg #[.int .i64 x.n, .string x.t]] w (RecvPost I (recvI S x) w) := by
  have HI := Lib.hid h
  have hI := h.lt
  have hIn : I ≠ w.heap.size := by omega
  have HX := Lib.hid (itb w x)
  obtain ⟨x0, x1⟩ := HX.out _ (Only.refl _ _)
  have htI : (S.taken : Int) ≤ 2000000000000 := by omega
  have ht0 : (0 : Int) ≤ (S.taken : Int) := by omega
  have hhI : (S.held : Int) ≤ 1000 := by omega
  have hh0 : (0 : Int) ≤ (S.held : Int) := by omega
  have hw1 : IntKind.i64.wrap ((S.taken : Int) + 64) = (S.taken : Int) + 64 := by rw [IntKind.wrap_i64]; omega
  have HN : Hid (∀ r : Int, Calls Tryd.prog 18 #[.pointer (some ⟨I, 0, none⟩), .agg #[.int .i64 x.n, .string x.t]] w (fun e w' => e = .returned (.int .i64 r) ∧ Only Nobody w w') → recvI S x = (r, S) → Calls Tryd.prog 18 #[.pointer (some ⟨I, 0, none⟩), .agg #[.int .i64 x.n, .string x.t]] w (RecvPost I (recvI S x) w)) := Lib.hid fun r hc e => by
    rw [e]
    exact hc.mono fun e w' ⟨h1, h2⟩ => ⟨h1, blk_same HI.out h2, h2.mono (fun _ x => x.elim)⟩
  clear h
  by_cases c1 : x.n < 1 ∨ 1099511627776 < x.n
  · refine HN.out 2 ?_ (by unfold recvI; rw [if_pos c1])
    by_cases c1' : x.n < 1
    · clear c1
      go_enter Tryd.func18, Tryd.ntmps18
      go_wp2_with fail
      go_ret
      exact ⟨rfl, (by repeat (first | exact Only.refl _ _ | refine Only.drew ?_ | refine Only.alloc ?_ _))⟩
    · have c1'' : 1099511627776 < x.n := by omega
      clear c1
      go_enter Tryd.func18, Tryd.ntmps18
      go_wp2_with fail
      go_ret
      exact ⟨rfl, (by repeat (first | exact Only.refl _ _ | refine Only.drew ?_ | refine Only.alloc ?_ _))⟩
  have d1 : ¬ x.n < 1 := by omega
  have d2 : ¬ 1099511627776 < x.n := by omega
  by_cases c2 : 65536 < x.t.size
  · refine HN.out 5 ?_ (by unfold recvI; rw [if_neg c1, if_pos c2])
    have c2I : (65536 : Int) < (x.t.size : Int) := by omega
    clear c1 c2
    go_enter Tryd.func18, Tryd.ntmps18
    go_wp2_with fail
    go_ret
    exact ⟨rfl, (by repeat (first | exact Only.refl _ _ | refine Only.drew ?_ | refine Only.alloc ?_ _))⟩
  have c2I : ¬ (65536 : Int) < (x.t.size : Int) := by omega
  have HCC : Hid (∀ w', Only Nobody (w.alloc (.cells #[.int .i64 x.n, .string x.t] 36)) w' → w'.cell? ⟨w.heap.size, 0, none⟩ = some (.int .i64 x.n) ∧ w'.cell? ⟨I, 0, none⟩ = some (.int .i64 S.taken)) := Lib.hid fun w' ho =>
    ⟨(HX.out w' ho).1, (blk_same (blk_same HI.out ((Only.refl _ _).alloc _)) ho).c0⟩
  by_cases c3 : x.n ≤ S.taken
  · refine HN.out 7 ?_ (by unfold recvI; rw [if_neg c1, if_neg c2, if_pos c3])
    clear c1 c2
    go_enter Tryd.func18, Tryd.ntmps18
    go_wp2_with fail
    go_region_held3 (fun w' => w'.cell? ⟨w.heap.size, 0, none⟩ = some (.int .i64 x.n) ∧ w'.cell? ⟨I, 0, none⟩ = some (.int .i64 S.taken)) (exact HCC.out _ (by repeat (first | exact Only.refl _ _ | refine Only.drew ?_ | refine Only.alloc ?_ _))) (fail)
    go_wp2_with fail
    go_ret
    exact ⟨rfl, (by repeat (first | exact Only.refl _ _ | refine Only.drew ?_ | refine Only.alloc ?_ _))⟩
  by_cases c4 : (S.taken : Int) + 64 < x.n
  · refine HN.out 39 ?_ (by unfold recvI; rw [if_neg c1, if_neg c2, if_neg c3, if_pos c4])
    clear c1 c2
    go_enter Tryd.func18, Tryd.ntmps18
    go_wp2_with fail
    go_region_held3 (fun w' => w'.cell? ⟨w.heap.size, 0, none⟩ = some (.int .i64 x.n) ∧ w'.cell? ⟨I, 0, none⟩ = some (.int .i64 S.taken)) (exact HCC.out _ (by repeat (first | exact Only.refl _ _ | refine Only.drew ?_ | refine Only.alloc ?_ _))) (fail)
    go_wp2_with fail
    go_region_held3 (fun w' => w'.cell? ⟨w.heap.size, 0, none⟩ = some (.int .i64 x.n) ∧ w'.cell? ⟨I, 0, none⟩ = some (.int .i64 S.taken)) (exact HCC.out _ (by repeat (first | exact Only.refl _ _ | refine Only.drew ?_ | refine Only.alloc ?_ _))) (fail)
    go_wp2_with fail
    go_ret
    exact ⟨rfl, (by repeat (first | exact Only.refl _ _ | refine Only.drew ?_ | refine Only.alloc ?_ _))⟩
  have hx0 : (0 : Int) ≤ x.n := by omega
  have d3 : ¬ x.n ≤ (S.taken : Int) := c3
  have d4 : ¬ (S.taken : Int) + 64 < x.n := c4
  obtain ⟨i, HIX⟩ : ∃ i, Hid (i = x.n.toNat % 64) := ⟨_, Lib.hid rfl⟩
  have hi : i < 64 := by rw [HIX.out]; exact Nat.mod_lt _ (by omega)
  have hmod : x.n.tmod 64 = (i : Int) := by rw [Int.tmod_eq_emod_of_nonneg (by omega)]; have := HIX.out; omega
  have hiI : (i : Int) < 64 := by omega
  have hi0 : (0 : Int) ≤ (i : Int) := by omega
  have HRS : Hid (recvI S x = if (S.ring i).isSome = true then (7, S) else (0, { S.put i (some x) with held := S.held + 1 })) := Lib.hid (by unfold recvI; rw [if_neg c1, if_neg c2, if_neg c3, if_neg c4, ← HIX.out])
  clear c1 c2 c3 c4
  cases hr : S.ring i with
  | some y =>
    refine HN.out 7 ?_ (by rw [HRS.out, if_pos (by rw [hr]; rfl)])
    have HSP := Lib.hid (spot (blk_same HI.out ((Only.refl Nobody _).alloc (.cells #[.int .i64 x.n, .string x.t] 36))) hi (by rw [hr]; rfl) : Spot _ I S i (.int .i64 y.n) (.string y.t) (.bool true)).at_
    clear hr
    go_enter Tryd.func18, Tryd.ntmps18
    go_wp2_with fail
    go_region_held3 (fun w' => w'.cell? ⟨w.heap.size, 0, none⟩ = some (.int .i64 x.n) ∧ w'.cell? ⟨I, 0, none⟩ = some (.int .i64 S.taken)) (exact HCC.out _ (by repeat (first | exact Only.refl _ _ | refine Only.drew ?_ | refine Only.alloc ?_ _))) (fail)
    go_wp2_with fail
    go_region_held3 (fun w' => w'.cell? ⟨w.heap.size, 0, none⟩ = some (.int .i64 x.n) ∧ w'.cell? ⟨I, 0, none⟩ = some (.int .i64 S.taken)) (exact HCC.out _ (by repeat (first | exact Only.refl _ _ | refine Only.drew ?_ | refine Only.alloc ?_ _))) (fail)
    go_wp2_with fail
    go_region_held3 (fun w' => w'.cell? ⟨w.heap.size, 0, none⟩ = some (.int .i64 x.n) ∧ w'.cell? ⟨I, 0, none⟩ = some (.int .i64 S.taken)) (exact HCC.out _ (by repeat (first | exact Only.refl _ _ | refine Only.drew ?_ | refine Only.alloc ?_ _))) (fail)
    obtain ⟨_, _, _, u2⟩ := HSP.out (w.alloc (.cells #[.int .i64 x.n, .string x.t] 36)).drew.drew.drew (by repeat (first | exact Only.refl _ _ | refine Only.drew ?_ | refine Only.alloc ?_ _))
    go_wp2_with fail
    go_ret
    exact ⟨rfl, (by repeat (first | exact Only.refl _ _ | refine Only.drew ?_ | refine Only.alloc ?_ _))⟩
  | none =>
    have HSP := Lib.hid (spot (blk_same HI.out ((Only.refl Nobody _).alloc (.cells #[.int .i64 x.n, .string x.t] 36))) hi (by rw [hr]; rfl) : Spot _ I S i (.int .i64 0) (.string ⟨#[]⟩) (.bool false)).at_
    rw [HRS.out, if_neg (by rw [hr]; simp)]
    clear hr
    go_enter Tryd.func18, Tryd.ntmps18
    go_wp2_with fail
    go_region_held3 (fun w' => w'.cell? ⟨w.heap.size, 0, none⟩ = some (.int .i64 x.n) ∧ w'.cell? ⟨I, 0, none⟩ = some (.int .i64 S.taken)) (exact HCC.out _ (by repeat (first | exact Only.refl _ _ | refine Only.drew ?_ | refine Only.alloc ?_ _))) (fail)
    go_wp2_with fail
    go_region_held3 (fun w' => w'.cell? ⟨w.heap.size, 0, none⟩ = some (.int .i64 x.n) ∧ w'.cell? ⟨I, 0, none⟩ = some (.int .i64 S.taken)) (exact HCC.out _ (by repeat (first | exact Only.refl _ _ | refine Only.drew ?_ | refine Only.alloc ?_ _))) (fail)
    go_wp2_with fail
    go_region_held3 (fun w' => w'.cell? ⟨w.heap.size, 0, none⟩ = some (.int .i64 x.n) ∧ w'.cell? ⟨I, 0, none⟩ = some (.int .i64 S.taken)) (exact HCC.out _ (by repeat (first | exact Only.refl _ _ | refine Only.drew ?_ | refine Only.alloc ?_ _))) (fail)
    obtain ⟨W, HW⟩ : ∃ W : World, Hid (W = (w.alloc (.cells #[.int .i64 x.n, .string x.t] 36)).drew.drew.drew) := ⟨_, Lib.hid rfl⟩
    rw [← HW.out]
    have HOA : Hid (Only Nobody (w.alloc (.cells #[.int .i64 x.n, .string x.t] 36)) W) := Lib.hid (by rw [HW.out]; exact (by repeat (first | exact Only.refl _ _ | refine Only.drew ?_ | refine Only.alloc ?_ _)))
    obtain ⟨e0, e1⟩ := HX.out W HOA.out
    obtain ⟨_, u0, u1, u2⟩ := HSP.out W HOA.out
    have hIW := blk_same (blk_same HI.out ((Only.refl Nobody _).alloc (.cells #[.int .i64 x.n, .string x.t] 36))) HOA.out
    have HIW := Lib.hid hIW
    have k1 := hIW.c1
    have g0 : W.frozen? ⟨I, 2 + i * 3, none⟩ = false := hIW.frozen _
    have g1 : W.frozen? ⟨I, 2 + i * 3 + 1, none⟩ = false := hIW.frozen _
    have g2 : W.frozen? ⟨I, 2 + i * 3 + 2, none⟩ = false := hIW.frozen _
    have g3 : W.frozen? ⟨I, 1, none⟩ = false := hIW.frozen _
    have n1 : (2 + i * 3 = 1) = False := by simp; omega
    have n2 : (2 + i * 3 + 1 = 1) = False := by simp
    have n3 : (2 + i * 3 + 2 = 1) = False := by simp
    clear x0 x1 hIW
    go_wp2_with fail
    go_ret
    refine ⟨rfl, recv_mem HIW.out hi x, ?_⟩
    have ho := HOA.out.mono (G := (· = I)) (fun _ x => x.elim)
    exact ((((((Only.refl (· = I) w).alloc _).trans ho).setCell (p := ⟨I, 2 + i * 3, none⟩) (.inl rfl) _).setCell (p := ⟨I, 2 + i * 3 + 1, none⟩) (.inl rfl) _).setCell (p := ⟨I, 2 + i * 3 + 2, none⟩) (.inl rfl) _).setCell (p := ⟨I, 1, none⟩) (.inl rfl) _

end Go.Proofs.YthmndclmecnpmaaDoor
