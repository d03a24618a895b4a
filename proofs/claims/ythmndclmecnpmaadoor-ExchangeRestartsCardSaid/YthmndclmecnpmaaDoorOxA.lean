/- Exchange: the outbox in memory; contracts of NewOutbox, Acked, Last, Put. -/
import Derived.Test.YthmndclmecnpmaaDoorExB
import Derived.Test.YthmndclmecnpmaaDoorRow
import Derived.Deep.RegionLaw
namespace Go.Proofs.YthmndclmecnpmaaDoor
open Go.RowKit
attribute [local go_sem ↓] Go.wp_at_zero Go.wp_at_succ

/-- An item of an outbox. -/
structure Snd where
  x : It
  sent : Bool
  at_ : Int
instance : Inhabited Snd := ⟨⟨default, false, 0⟩⟩
def Snd.cells (y : Snd) : List Value := [.int .i64 y.x.n, .string y.x.t, .bool y.sent, .int .i64 y.at_]
def sndsC (l : List Snd) : List Value := l.flatMap Snd.cells
theorem sndsC_len : ∀ l : List Snd, (sndsC l).length = l.length * 4
  | [] => rfl
  | y :: l => by
    have : sndsC (y :: l) = y.cells ++ sndsC l := rfl
    rw [this, List.length_append, sndsC_len l, List.length_cons]
    show 4 + _ = _
    omega
theorem sndsC_append (a b : List Snd) : sndsC (a ++ b) = sndsC a ++ sndsC b := by simp [sndsC]
theorem sndsC_get : ∀ (l : List Snd) (i t : Nat) (y : Snd), l[i]? = some y → t < 4 → (sndsC l)[i * 4 + t]? = y.cells[t]?
  | [], i, t, y, h, _ => by simp at h
  | z :: l, 0, t, y, h, ht => by
    simp only [List.getElem?_cons_zero, Option.some.injEq] at h
    subst h
    have e : sndsC (z :: l) = z.cells ++ sndsC l := rfl
    rw [e, Nat.zero_mul, Nat.zero_add, List.getElem?_append_left (by show t < 4; exact ht)]
  | z :: l, i + 1, t, y, h, ht => by
    have e : sndsC (z :: l) = z.cells ++ sndsC l := rfl
    have hl : z.cells.length = 4 := rfl
    rw [e, List.getElem?_append_right (by rw [hl]; omega), hl, show (i + 1) * 4 + t - 4 = i * 4 + t by omega]
    exact sndsC_get l i t y (by simpa using h) ht
theorem sndsC_drop : ∀ (l : List Snd) (k : Nat), (sndsC l).drop (k * 4) = sndsC (l.drop k)
  | l, 0 => by simp
  | [], k + 1 => by simp [sndsC]
  | z :: l, k + 1 => by
    have e : sndsC (z :: l) = z.cells ++ sndsC l := rfl
    have hl : z.cells.length = 4 := rfl
    rw [e, show (k + 1) * 4 = z.cells.length + k * 4 by rw [hl]; omega, List.drop_append, List.drop_of_length_le (by omega), List.nil_append, Nat.add_sub_cancel_left, List.drop_succ_cons, sndsC_drop l k]
theorem oneCell_snd (l : List Snd) : ∀ u ∈ sndsC l, u.oneCell' = true := by
  intro u hu
  obtain ⟨y, _, hu⟩ := List.mem_flatMap.1 hu
  simp only [Snd.cells, List.mem_cons, List.not_mem_nil, or_false] at hu
  rcases hu with rfl | rfl | rfl | rfl <;> rfl

structure OutS where
  acked : Nat
  l : List Snd
def OutS.last (S : OutS) : Nat := S.acked + S.l.length
def putO (S : OutS) (x : It) : Int × OutS :=
  if x.n ≠ (S.last : Int) + 1 then (30, S) else if 1099511627776 < x.n then (2, S) else if 65536 < x.t.size then (5, S) else if 4096 ≤ S.l.length then (9, S) else (0, { S with l := S.l ++ [Snd.mk x false 0] })

/-- An outbox in state S lies at block O, its items in the slice v. -/
structure OutAt (w : World) (O : Nat) (S : OutS) (v : Value) : Prop where
  blk : Blk w O 91 #[.int .i64 S.acked, v]
  row : RowAt w 0 93 4 v S.l.length (sndsC S.l)
/-- The blocks of an outbox. -/
def OwnO (O : Nat) (v : Value) : Nat → Prop := fun k => k = O ∨ v.ownBlock = some k
theorem OutAt.ne_ {w : World} {O : Nat} {S : OutS} {v : Value} (h : OutAt w O S v) : v.ownBlock ≠ some O := by
  intro e
  rcases h.row.2 with ⟨rfl, _⟩ | ⟨g, o, cap, cur, rfl, _, hg, _⟩
  · cases e
  · simp only [Value.ownBlock, Option.some.injEq] at e
    subst e
    exact Blk.ne_ (t := 93) hg h.blk (by decide) rfl
theorem OutAt.keep {w w' : World} {O : Nat} {S : OutS} {v : Value} (h : OutAt w O S v) {F : Nat → Prop} (ho : Only F w w') (hF : ∀ k, OwnO O v k → ¬ F k) : OutAt w' O S v :=
  ⟨ho.blk h.blk (hF O (.inl rfl)), h.row.keep ho (fun g e => hF g (.inr e))⟩
theorem OutAt.same {w w' : World} {O : Nat} {S : OutS} {v : Value} (h : OutAt w O S v) (ho : Only Nobody w w') : OutAt w' O S v := h.keep ho (fun _ _ x => x)
theorem OutAt.lt {w : World} {O : Nat} {S : OutS} {v : Value} (h : OutAt w O S v) : ∀ k, OwnO O v k → k < w.heap.size := by
  rintro k (rfl | e)
  · exact h.blk.lt
  · exact (h.row.lt k e).2

set_option maxRecDepth 100000 in
set_option maxHeartbeats 1000000 in
theorem newOutbox_ok (n : Nat) (hn : n ≤ 1099511627776) (w : World) : Calls Tryd.prog 23 #[.int .i64 (n : Int)] w fun e w' => e = .returned (.tuple #[.pointer (some ⟨w.heap.size, 0, none⟩), .int .i64 0]) ∧ OutAt w' w.heap.size ⟨n, []⟩ (.slice none 0 0) ∧ Below w.heap.size w w' := by
  have hi : (n : Int) ≤ 1099511627776 := by omega
  have h0 : (0 : Int) ≤ (n : Int) := by omega
  go_enter Tryd.func23, Tryd.ntmps23
  go_wp2_with fail
  go_ret2
  exact ⟨rfl, ⟨Blk.new w _ _, RowAt.nil_ _ _ _ _⟩, (Below.refl _ _).alloc (Nat.le_refl _) _⟩
set_option maxHeartbeats 1000000 in
theorem newOutbox_bad (n : Int) (hn : ¬ (0 ≤ n ∧ n ≤ 1099511627776)) (w : World) : Calls Tryd.prog 23 #[.int .i64 n] w fun e w' => e = .returned (.tuple #[.pointer none, .int .i64 2]) ∧ w = w' := by
  by_cases h0 : n < 0
  · clear hn
    go_enter Tryd.func23, Tryd.ntmps23
    go_wp2_with fail
    go_ret2
    exact ⟨rfl, rfl⟩
  · have h1 : 1099511627776 < n := by omega
    clear hn
    go_enter Tryd.func23, Tryd.ntmps23
    go_wp2_with fail
    go_ret2
    exact ⟨rfl, rfl⟩
set_option maxHeartbeats 1000000 in
theorem acked_ox (O : Nat) (S : OutS) (v : Value) (w : World) (h : OutAt w O S v) : Calls Tryd.prog 32 #[.pointer (some ⟨O, 0, none⟩)] w fun e w' => e = .returned (.int .i64 S.acked) ∧ w = w' := by
  have hc : w.cell? ⟨O, 0, none⟩ = some (.int .i64 S.acked) := h.blk.cell 0
  clear h
  go_enter Tryd.func32, Tryd.ntmps32
  go_wp2_with fail
  go_ret
  exact ⟨rfl, rfl⟩
set_option maxHeartbeats 1000000 in
theorem last_ox (O : Nat) (S : OutS) (v : Value) (w : World) (h : OutAt w O S v) (ha : S.acked ≤ 2000000000000) (hl : S.l.length ≤ 5000) : Calls Tryd.prog 33 #[.pointer (some ⟨O, 0, none⟩)] w fun e w' => e = .returned (.int .i64 (S.last : Int)) ∧ w' = w.drew := by
  have hc0 : w.cell? ⟨O, 0, none⟩ = some (.int .i64 S.acked) := h.blk.cell 0
  have hc1 : w.cell? ⟨O, 1, none⟩ = some v := h.blk.cell 1
  obtain ⟨A, c, rfl, _, _⟩ := h.row.form
  obtain ⟨N, HN⟩ : ∃ N, Hid (S.l.length = N) := ⟨_, Lib.hid rfl⟩
  rw [HN.out] at hc1 hl
  have HL : Hid (((S.acked : Int) + (N : Int)) = (S.last : Int)) := Lib.hid (by unfold OutS.last; rw [HN.out]; exact (Int.natCast_add _ _).symm)
  have hI1 : (S.acked : Int) ≤ 2000000000000 := by omega
  have hI2 : (N : Int) ≤ 5000 := by omega
  have hw1 : IntKind.i64.wrap ((S.acked : Int) + (N : Int)) = (S.acked : Int) + (N : Int) := by rw [IntKind.wrap_i64]; omega
  clear h
  go_enter Tryd.func33, Tryd.ntmps33
  go_wp2_with fail
  go_region_held3 (fun w' => w'.cell? ⟨O, 0, none⟩ = some (.int .i64 S.acked) ∧ w'.cell? ⟨O, 1, none⟩ = some (.slice A N c)) (exact ⟨hc0, hc1⟩) (fail)
  go_wp2_with fail
  go_ret
  exact ⟨ret_int (by first | exact HL.out | (have := HL.out; omega)), rfl⟩

theorem infoSnd : (Tryd.prog.info? 93).map (fun i => (i.zero, i.size, i.bytes)) = some (some (.agg #[.int .i64 0, .string ByteArray.empty, .bool false, .int .i64 0]), 4, 40) := by kernel_rfl
def PutPost (O : Nat) (v : Value) (r : Int × OutS) (w : World) (e : Ending) (w' : World) : Prop :=
  e = .returned (.int .i64 r.1) ∧ ∃ v', OutAt w' O r.2 v' ∧ Only (OwnO O v) w w' ∧ (v'.ownBlock = v.ownBlock ∨ ∃ g, v'.ownBlock = some g ∧ w.heap.size ≤ g)
theorem put_end {w w1 : World} {O : Nat} {S : OutS} {v v' : Value} {x : It} (h : OutAt w O S v) (hrow : RowAt w1 0 93 4 v' (S.l.length + 1) (sndsC S.l ++ (Snd.mk x false 0).cells)) (hg : w.grownBy w1 v.ownBlock) (hat : v'.ownBlock = v.ownBlock ∨ ∃ g, v'.ownBlock = some g ∧ w.heap.size ≤ g) :
    OutAt (w1.setCell ⟨O, 1, none⟩ v') O { S with l := S.l ++ [Snd.mk x false 0] } v' ∧ Only (OwnO O v) w (w1.setCell ⟨O, 1, none⟩ v') := by
  have hb1 : Blk w1 O 91 #[.int .i64 S.acked, v] := (hg.block O h.blk.lt (fun e => h.ne_ e.symm)).trans h.blk
  have hO : Only (OwnO O v) w (w1.setCell ⟨O, 1, none⟩ v') := (Only.of_grown hg (fun k e => .inr e)).setCell (p := ⟨O, 1, none⟩) (.inl (.inl rfl)) v'
  refine ⟨⟨hb1.set_ 1 v', ?_⟩, hO⟩
  have hl : sndsC (S.l ++ [Snd.mk x false 0]) = sndsC S.l ++ (Snd.mk x false 0).cells := by rw [sndsC_append]; simp [sndsC]
  show RowAt _ _ _ _ _ (S.l ++ [Snd.mk x false 0]).length (sndsC (S.l ++ [Snd.mk x false 0]))
  rw [hl, List.length_append, List.length_singleton]
  refine hrow.keep (F := (· = O)) ((Only.refl (· = O) w1).setCell (p := ⟨O, 1, none⟩) (.inl rfl) v') (fun g e hgo => ?_)
  subst hgo
  rcases hrow.2 with ⟨rfl, _⟩ | ⟨g', o, cap, cur, rfl, _, hg', _⟩
  · cases e
  · simp only [Value.ownBlock, Option.some.injEq] at e
    subst e
    exact Blk.ne_ (t := 93) hg' hb1 (by decide) rfl
set_option maxRecDepth 100000 in
set_option maxHeartbeats 2000000 in
theorem put_ox (O : Nat) (S : OutS) (v : Value) (x : It) (w : World) (h : OutAt w O S v) (ha : S.acked ≤ 2000000000000) (hl : S.l.length ≤ 5000) : Calls Tryd.prog 24 #[.pointer (some ⟨O, 0, none⟩), .agg #[.int .i64 x.n, .string x.t]] w (PutPost O v (putO S x) w) := by
  have HO := Lib.hid h
  have HX := Lib.hid (itb w x)
  obtain ⟨x0, x1⟩ := HX.out _ (Only.refl _ _)
  have hoA : OutAt (w.alloc (.cells #[.int .i64 x.n, .string x.t] 36)) O S v := h.same ((Only.refl _ _).alloc _)
  have HA := Lib.hid hoA
  have HN : Hid (∀ r : Int, Calls Tryd.prog 24 #[.pointer (some ⟨O, 0, none⟩), .agg #[.int .i64 x.n, .string x.t]] w (fun e w' => e = .returned (.int .i64 r) ∧ Only Nobody w w') → putO S x = (r, S) → Calls Tryd.prog 24 #[.pointer (some ⟨O, 0, none⟩), .agg #[.int .i64 x.n, .string x.t]] w (PutPost O v (putO S x) w)) := Lib.hid fun r hc e => by
    rw [e]
    exact hc.mono fun e w' ⟨h1, h2⟩ => ⟨h1, v, HO.out.same h2, h2.mono (fun _ x => x.elim), .inl rfl⟩
  obtain ⟨L, HL⟩ : ∃ L, Hid (S.last = L) := ⟨_, Lib.hid rfl⟩
  have hL : L ≤ 2000000005000 := by rw [← HL.out]; unfold OutS.last; omega
  have hLI : (L : Int) ≤ 2000000005000 := by omega
  have hL0 : (0 : Int) ≤ (L : Int) := by omega
  have hw1 : IntKind.i64.wrap ((L : Int) + 1) = (L : Int) + 1 := by rw [IntKind.wrap_i64]; omega
  have HLC : Hid (∀ w', OutAt w' O S v → Calls Tryd.prog 33 #[.pointer (some ⟨O, 0, none⟩)] w' fun e w'' => e = .returned (.int .i64 (L : Int)) ∧ w'' = w'.drew) := Lib.hid fun w' ho => by
    rw [← HL.out]; exact last_ox O S v w' ho ha hl
  have HPO : Hid (putO S x = if x.n ≠ (L : Int) + 1 then (30, S) else if 1099511627776 < x.n then (2, S) else if 65536 < x.t.size then (5, S) else if 4096 ≤ S.l.length then (9, S) else (0, { S with l := S.l ++ [Snd.mk x false 0] })) := Lib.hid (by unfold putO; rw [HL.out])
  have HAD : Hid (OutAt (w.alloc (.cells #[.int .i64 x.n, .string x.t] 36)).drew O S v) := Lib.hid (HA.out.same (Only.refl _ _).drew)
  clear h hoA
  by_cases c1 : x.n = (L : Int) + 1
  · have c1b : (x.n != (L : Int) + 1) = false := by simpa using c1
    have HC1 := Lib.hid c1
    have HP1 : Hid (putO S x = if 1099511627776 < x.n then (2, S) else if 65536 < x.t.size then (5, S) else if 4096 ≤ S.l.length then (9, S) else (0, { S with l := S.l ++ [Snd.mk x false 0] })) := Lib.hid (by rw [HPO.out, if_neg (fun z => z c1)])
    clear c1
    by_cases c2 : 1099511627776 < x.n
    · refine HN.out 2 ?_ (by rw [HP1.out, if_pos c2])
      go_enter Tryd.func24, Tryd.ntmps24
      go_wp2_with fail
      go_region_held3 (fun w' => w'.cell? ⟨w.heap.size, 0, none⟩ = some (.int .i64 x.n)) (exact (HX.out _ (by repeat (first | exact Only.refl _ _ | refine Only.drew ?_ | refine Only.alloc ?_ _))).1) (first
        | (go_at_call 33; refine (HLC.out _ HAD.out).mono ?_; rintro e w' ⟨rfl, rfl⟩))
      obtain ⟨y0, y1⟩ := HX.out (w.alloc (.cells #[.int .i64 x.n, .string x.t] 36)).drew.drew (by repeat (first | exact Only.refl _ _ | refine Only.drew ?_ | refine Only.alloc ?_ _))
      go_wp2_with fail
      go_ret
      exact ⟨rfl, (by repeat (first | exact Only.refl _ _ | refine Only.drew ?_ | refine Only.alloc ?_ _))⟩
    by_cases c3 : 65536 < x.t.size
    · refine HN.out 5 ?_ (by rw [HP1.out, if_neg c2, if_pos c3])
      have c3I : (65536 : Int) < (x.t.size : Int) := by omega
      clear c3
      go_enter Tryd.func24, Tryd.ntmps24
      go_wp2_with fail
      go_region_held3 (fun w' => w'.cell? ⟨w.heap.size, 0, none⟩ = some (.int .i64 x.n)) (exact (HX.out _ (by repeat (first | exact Only.refl _ _ | refine Only.drew ?_ | refine Only.alloc ?_ _))).1) (first
        | (go_at_call 33; refine (HLC.out _ HAD.out).mono ?_; rintro e w' ⟨rfl, rfl⟩))
      obtain ⟨y0, y1⟩ := HX.out (w.alloc (.cells #[.int .i64 x.n, .string x.t] 36)).drew.drew (by repeat (first | exact Only.refl _ _ | refine Only.drew ?_ | refine Only.alloc ?_ _))
      go_wp2_with fail
      go_ret
      exact ⟨rfl, (by repeat (first | exact Only.refl _ _ | refine Only.drew ?_ | refine Only.alloc ?_ _))⟩
    have c3I : ¬ (65536 : Int) < (x.t.size : Int) := by omega
    obtain ⟨A, c, rfl, hnc, hcm⟩ := HO.out.row.form
    obtain ⟨N, HNN⟩ : ∃ N, Hid (S.l.length = N) := ⟨_, Lib.hid rfl⟩
    have HBW : Hid (∀ w', Only Nobody (w.alloc (.cells #[.int .i64 x.n, .string x.t] 36)) w' → w'.cell? ⟨O, 1, none⟩ = some (.slice A N c)) := Lib.hid fun w' ho => by
      have := (HA.out.same ho).blk.cell 1
      rw [HNN.out] at this
      exact this
    rw [HNN.out] at hl hnc
    by_cases c4 : 4096 ≤ N
    · refine HN.out 9 ?_ (by rw [HP1.out, if_neg c2, if_neg c3, if_pos (by rw [HNN.out]; exact c4)])
      have c4I : (4096 : Int) ≤ (N : Int) := by omega
      have c4J : decide (4096 ≤ N) = true := by simpa using c4
      clear c3 c4
      go_enter Tryd.func24, Tryd.ntmps24
      go_wp2_with fail
      go_region_held3 (fun w' => w'.cell? ⟨w.heap.size, 0, none⟩ = some (.int .i64 x.n)) (exact (HX.out _ (by repeat (first | exact Only.refl _ _ | refine Only.drew ?_ | refine Only.alloc ?_ _))).1) (first
        | (go_at_call 33; refine (HLC.out _ HAD.out).mono ?_; rintro e w' ⟨rfl, rfl⟩))
      obtain ⟨y0, y1⟩ := HX.out (w.alloc (.cells #[.int .i64 x.n, .string x.t] 36)).drew.drew (by repeat (first | exact Only.refl _ _ | refine Only.drew ?_ | refine Only.alloc ?_ _))
      have y2 := HBW.out (w.alloc (.cells #[.int .i64 x.n, .string x.t] 36)).drew.drew (by repeat (first | exact Only.refl _ _ | refine Only.drew ?_ | refine Only.alloc ?_ _))
      go_wp2_with fail
      go_ret
      exact ⟨rfl, (by repeat (first | exact Only.refl _ _ | refine Only.drew ?_ | refine Only.alloc ?_ _))⟩
    have c4I : ¬ (4096 : Int) ≤ (N : Int) := by omega
    have HPE : Hid (putO S x = (0, { S with l := S.l ++ [Snd.mk x false 0] })) := Lib.hid (by rw [HP1.out, if_neg c2, if_neg c3, if_neg (by rw [HNN.out]; exact c4)])
    rw [HPE.out]
    clear c3 c4
    obtain ⟨i0, hi0, hz0, hz1, hz2⟩ := info_parts infoSnd
    go_enter Tryd.func24, Tryd.ntmps24
    go_wp2_with fail
    go_region_held3 (fun w' => w'.cell? ⟨w.heap.size, 0, none⟩ = some (.int .i64 x.n)) (exact (HX.out _ (by repeat (first | exact Only.refl _ _ | refine Only.drew ?_ | refine Only.alloc ?_ _))).1) (first
      | (go_at_call 33; refine (HLC.out _ HAD.out).mono ?_; rintro e w' ⟨rfl, rfl⟩))
    obtain ⟨W, HW⟩ : ∃ W : World, Hid (W = (w.alloc (.cells #[.int .i64 x.n, .string x.t] 36)).drew.drew) := ⟨_, Lib.hid rfl⟩
    rw [← HW.out]
    have HOW : Hid (Only Nobody (w.alloc (.cells #[.int .i64 x.n, .string x.t] 36)) W) := Lib.hid (by rw [HW.out]; exact (by repeat (first | exact Only.refl _ _ | refine Only.drew ?_ | refine Only.alloc ?_ _)))
    have HOU : Hid (OutAt W O S (.slice A S.l.length c)) := Lib.hid (HA.out.same HOW.out)
    obtain ⟨y0, y1⟩ := HX.out W HOW.out
    have y2 := HBW.out W HOW.out
    have f2 : W.frozen? ⟨O, 1, none⟩ = false := HOU.out.blk.frozen 1
    have HR : Hid (Reads (W.alloc (.cells #[.int .i64 x.n, .string x.t, .bool false, .int .i64 0] 93)).drew (W.heap.size + 1) 4 (some ⟨W.heap.size, 0, none⟩) 1 (Snd.mk x false 0).cells) := Lib.hid (reads_alloc W 93 #[.int .i64 x.n, .string x.t, .bool false, .int .i64 0] 4 1 rfl)
    have HRW : Hid (RowAt (W.alloc (.cells #[.int .i64 x.n, .string x.t, .bool false, .int .i64 0] 93)).drew 0 93 4 (.slice A N c) N (sndsC S.l)) := Lib.hid (by
      have := HOU.out.row
      rw [HNN.out] at this
      exact this.keep (F := Nobody) (by repeat (first | exact Only.refl _ _ | refine Only.drew ?_ | refine Only.alloc ?_ _)) (fun _ _ x => x))
    have hOW := HOU.out.blk.lt
    clear x0 x1
    have HNE : Hid ((Value.slice A N c).ownBlock ≠ some O) := Lib.hid (by have := HO.out.ne_; rw [HNN.out] at this; exact this)
    have HOA2 : Hid (Only Nobody w W) := Lib.hid (((Only.refl Nobody w).alloc _).trans HOW.out)
    go_upto_region 11 with fail
    go_cut [] (fun wx => ∃ v', OutAt wx O { S with l := S.l ++ [Snd.mk x false 0] } v' ∧ Only (OwnO O (.slice A N c)) W wx ∧ (v'.ownBlock = (Value.slice A N c).ownBlock ∨ ∃ g, v'.ownBlock = some g ∧ W.heap.size ≤ g))
    case first =>
      go_region_law (refine step_append_at _ rfl (.tmp 35) (.tmp 38) 89 rfl 0 93 i0 _ 4 40 Tryd.underlying89 hi0 hz0 hz1 hz2 rfl (by omega) (.slice A N c) N (sndsC S.l) (by simp [Act.eval]) HRW.out _ (some ⟨W.heap.size, 0, none⟩) 1 1 (Snd.mk x false 0).cells (by simp [Act.eval]) HR.out (fun u hu => oneCell_snd [Snd.mk x false 0] u (by simpa [sndsC] using hu)) (by unfold maxLen; omega) (by omega) (by omega) ?_; intro v' w1 hown' hgrow hat; obtain ⟨A', c', rfl, _, _⟩ := hown'.form; have HO' := Lib.hid hown'; have HAT := Lib.hid hat; have HG := Lib.hid hgrow; have hbO : Blk w1 O 91 #[.int .i64 S.acked, .slice A S.l.length c] := (hgrow.block O (by simp; omega) (fun e => HNE.out e.symm)).trans ((HOU.out.same ((Only.refl Nobody W).alloc _).drew).blk); have k1 : w1.cell? ⟨O, 1, none⟩ = some (.slice A S.l.length c) := hbO.cell 1; have g1 : w1.frozen? ⟨O, 1, none⟩ = false := hbO.frozen 1; clear hown' hat hgrow hbO)
      all_goals
        go_wp2_with fail
        go_meet
        refine ⟨.slice A' (N + 1) c', ?_⟩
        have hOE : OutAt (W.alloc (.cells #[.int .i64 x.n, .string x.t, .bool false, .int .i64 0] 93)).drew O S (.slice A S.l.length c) := HOU.out.same (by repeat (first | exact Only.refl _ _ | refine Only.drew ?_ | refine Only.alloc ?_ _))
        have hE := put_end (x := x) hOE (by have := HO'.out; rw [HNN.out]; exact this) (by rw [HNN.out]; exact HG.out) (by rw [HNN.out]; exact HAT.out.elim .inl (fun e => .inr ⟨_, e, Nat.le_refl _⟩))
        refine ⟨hE.1, ?_, HAT.out.elim .inl (fun e => .inr ⟨_, e, by simp⟩)⟩
        have h2 := hE.2
        rw [HNN.out] at h2
        exact (((Only.refl _ W).alloc _).drew).trans h2
    case rest =>
      obtain ⟨v', h1, h2, h3⟩ := hcut
      have H1 := Lib.hid h1
      have H2 := Lib.hid h2
      have H3 := Lib.hid h3
      clear h1 h2 h3
      go_wp2_with fail
      go_ret
      refine ⟨rfl, v', H1.out, ?_, ?_⟩
      · rw [HNN.out]
        exact (HOA2.out.mono (fun _ x => x.elim)).trans H2.out
      · rw [HNN.out]
        exact H3.out.elim .inl (fun ⟨g, e, hg⟩ => .inr ⟨g, e, Nat.le_trans HOA2.out.size hg⟩)
  · refine HN.out 30 ?_ (by rw [HPO.out, if_pos c1])
    have c1b : (x.n != (L : Int) + 1) = true := by simpa using c1
    clear c1
    go_enter Tryd.func24, Tryd.ntmps24
    go_wp2_with fail
    go_region_held3 (fun w' => w'.cell? ⟨w.heap.size, 0, none⟩ = some (.int .i64 x.n)) (exact (HX.out _ (by repeat (first | exact Only.refl _ _ | refine Only.drew ?_ | refine Only.alloc ?_ _))).1) (first
      | (go_at_call 33; refine (HLC.out _ HAD.out).mono ?_; rintro e w' ⟨rfl, rfl⟩))
    go_wp2_with fail
    go_ret
    exact ⟨rfl, by repeat (first | exact Only.refl _ _ | refine Only.drew ?_ | refine Only.alloc ?_ _)⟩
end Go.Proofs.YthmndclmecnpmaaDoor
