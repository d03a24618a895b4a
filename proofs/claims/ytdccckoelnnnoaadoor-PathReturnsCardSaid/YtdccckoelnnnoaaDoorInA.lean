/- slices.Clone and slices.Insert over fields and values; the builtin copy of elements of several cells. -/
import Derived.Test.YtdccckoelnnnoaaDoorVaO
import Derived.Lib.AppendZerosOnto
import Derived.Lib.Overlaps
import Derived.Laws.CopyOwn
import Derived.Lib.Walk
import Derived.Lib.SliceRun
import Derived.Shelf.RegionOpenPlain
namespace Go.Proofs.YtdccckoelnnnoaaDoor
open Go.RowKit
attribute [local go_sem ↓] Go.wp_at_zero Go.wp_at_succ

theorem run_copy_k {P : Program} (w : World) (dT sT ty elem : TypeId) (g o dLen dCap : Nat) (a : Addr) (sLen sCap : Nat) (cur : Array Value) (t : TypeId) (cs : List Value) (k : Nat)
    (hu : P.underlying dT = some (.slice elem)) (hs : (P.info? elem).map (·.size) = some k)
    (hg : w.heap[g]? = some (.cells cur t (0, 0))) (hn : cs.length = Nat.min sLen dLen * k)
    (hsrc : ∀ (j : Nat) (v : Value), cs[j]? = some v → w.cell? (a.add j) = some v) (hfit : o + cs.length ≤ cur.size) (h1 : ∀ v ∈ cs, v.oneCell' = true) :
    (Builtin.copy_ #[dT, sT] ty #[.slice (some ⟨g, o, none⟩) dLen dCap, .slice (some a) sLen sCap]).run P w =
      .ok (goInt (Nat.min sLen dLen)) (w.setRow g (cur.toList.take o ++ cs ++ cur.toList.drop (o + cs.length)).toArray) := by
  have hl := run_loadCells_list (P := P) w a cs hsrc
  have hst := run_storeCells_at P g o t cs 0 cur w hg (by simpa using hfit) h1
  cases hq : P.info? elem with
  | none => simp [hq] at hs
  | some i =>
    have hi : i.size = k := by simpa [hq] using hs
    simp [Builtin.copy_, run_underlying hu, Builtin.lenOf, Builtin.firstCells, sizeOf, typeInfo, hq, hi, ← hn, hl, hst]
theorem only_setRow (w : World) (g : Nat) (cs : Array Value) : Only (fun b => b = g) w (w.setRow g cs) :=
  ⟨rfl, rfl, rfl, by simp [World.setRow], fun k _ hn => setRow_other w g k cs hn⟩
theorem wpList_copy_k {P : Program} {w : World} {ops : Array Oper} {rest : List Oper} {o : Oper} {a : Act} {Q : Exit → Act → World → Prop} (hgd : o.guard = none) (d s : Operand) (dT sT : TypeId)
    (ho : o.op = .call { callee := .builtin .copy, args := #[d, s], argTypes := #[dT, sT] }) (elem : TypeId) (k : Nat) (hu : P.underlying dT = some (.slice elem)) (hsz : (P.info? elem).map (·.size) = some k)
    (g off dLen dCap : Nat) (ad : Addr) (sLen sCap : Nat) (hd : a.eval d = .slice (some ⟨g, off, none⟩) dLen dCap) (hs : a.eval s = .slice (some ad) sLen sCap)
    (cur : Array Value) (t : TypeId) (hg : w.heap[g]? = some (.cells cur t (0, 0))) (cs : List Value) (hn : cs.length = Nat.min sLen dLen * k)
    (hsrc : ∀ (j : Nat) (v : Value), cs[j]? = some v → w.cell? (ad.add j) = some v) (hfit : off + cs.length ≤ cur.size) (h1 : ∀ v ∈ cs, v.oneCell' = true)
    (h : ∀ w', Hid (w'.heap[g]? = some (.cells (splice cur.toList off cs).toArray t (0, 0))) → Only (fun b => b = g) w w' → wpList P ops Q rest (a.put o.dst (goInt (Nat.min sLen dLen))) w') : wpList P ops Q (o :: rest) a w := by
  refine wpList_plain hgd fun K hK => ?_
  have hrun := run_copy_k (P := P) w dT sT o.type elem g off dLen dCap ad sLen sCap cur t cs k hu hsz hg hn hsrc hfit h1
  unfold Oper.wp
  simp [execOp, ho, resolve, invoke, builtin, hd, hs, hrun, Result.andThen]
  exact hK _ _ (h _ (show _ = _ by simpa [splice] using setRow_heap w g _ _ t _ hg) (only_setRow _ _ _))
theorem step_copy_k {P : Program} {ops : Array Oper} {o : Oper} {a : Act} {w : World} {K : Act → World → Prop} {Q : Exit → Act → World → Prop} {E : Prop} (hgd : o.guard = none) (d s : Operand) (dT sT : TypeId)
    (ho : o.op = .call { callee := .builtin .copy, args := #[d, s], argTypes := #[dT, sT] }) (elem : TypeId) (k : Nat) (hu : P.underlying dT = some (.slice elem)) (hsz : (P.info? elem).map (·.size) = some k)
    (g off dLen dCap : Nat) (ad : Addr) (sLen sCap : Nat) (hd : a.eval d = .slice (some ⟨g, off, none⟩) dLen dCap) (hs : a.eval s = .slice (some ad) sLen sCap)
    (cur : Array Value) (t : TypeId) (hg : w.heap[g]? = some (.cells cur t (0, 0))) (cs : List Value) (hn : cs.length = Nat.min sLen dLen * k)
    (hsrc : ∀ (j : Nat) (v : Value), cs[j]? = some v → w.cell? (ad.add j) = some v) (hfit : off + cs.length ≤ cur.size) (h1 : ∀ v ∈ cs, v.oneCell' = true)
    (h : ∀ w', Hid (w'.heap[g]? = some (.cells (splice cur.toList off cs).toArray t (0, 0))) → Only (fun b => b = g) w w' → K (a.put o.dst (goInt (Nat.min sLen dLen))) w') :
    if Region.wanted o (yielded ops a.tmps) = true then Oper.wp P o a w K Q else E := by
  have hw : Region.wanted o (yielded ops a.tmps) = true := by simp [Region.wanted, hgd]
  rw [if_pos hw]
  have hrun := run_copy_k (P := P) w dT sT o.type elem g off dLen dCap ad sLen sCap cur t cs k hu hsz hg hn hsrc hfit h1
  unfold Oper.wp
  simp [execOp, ho, resolve, invoke, builtin, hd, hs, hrun, Result.andThen]
  exact h _ (show _ = _ by simpa [splice] using setRow_heap w g _ _ t _ hg) (only_setRow _ _ _)

theorem splice_two {α : Type} (L X D : List α) (a : Nat) (h : a + X.length + D.length ≤ L.length) :
    (splice (splice L a X) (a + X.length) D).take (a + X.length + D.length) = L.take a ++ (X ++ D) := by
  have h1 : (splice L a X).take (a + X.length) = L.take a ++ X := by
    unfold splice
    rw [← List.append_assoc, List.take_append_of_le_length (by simp; omega), List.take_of_length_le (by simp; omega)]
  have e : splice (splice L a X) (a + X.length) D = (splice L a X).take (a + X.length) ++ (D ++ (splice L a X).drop (a + X.length + D.length)) := rfl
  rw [e, h1, ← List.append_assoc, List.take_append_of_le_length (by simp; omega), List.take_of_length_le (by simp; omega), List.append_assoc]
theorem splice_two' {α : Type} (L X D : List α) (a : Nat) (h : a + X.length + D.length ≤ L.length) :
    (splice (splice L (a + X.length) D) a X).take (a + X.length + D.length) = L.take a ++ (X ++ D) := by
  have h1 : (splice L (a + X.length) D).take a = L.take a := by
    unfold splice
    rw [List.take_append_of_le_length (by simp; omega), List.take_take, Nat.min_eq_left (by omega)]
  have h2 : (splice L (a + X.length) D).drop (a + X.length) = D ++ L.drop (a + X.length + D.length) := by
    unfold splice
    rw [List.drop_append_of_le_length (by simp; omega), List.drop_of_length_le (by simp; omega), List.nil_append]
  have e : splice (splice L (a + X.length) D) a X = (splice L (a + X.length) D).take a ++ (X ++ (splice L (a + X.length) D).drop (a + X.length)) := rfl
  rw [e, h1, h2, ← List.append_assoc, ← List.append_assoc, List.take_append_of_le_length (by simp; omega), List.take_of_length_le (by simp; omega), List.append_assoc]
theorem one_fs (F : List FC) : ∀ u ∈ cells FC.vals F, u.oneCell' = true := by
  intro u hu
  obtain ⟨f, _, hf⟩ := List.mem_flatMap.1 hu
  simp only [FC.vals, VC.vals, List.mem_cons, List.not_mem_nil, or_false] at hf
  rcases hf with rfl | rfl | rfl | rfl | rfl | rfl | rfl <;> rfl
theorem one_vs' (V : List VC) : ∀ u ∈ cells VC.vals V, u.oneCell' = true := by
  intro u hu
  obtain ⟨f, _, hf⟩ := List.mem_flatMap.1 hu
  simp only [VC.vals, List.mem_cons, List.not_mem_nil, or_false] at hf
  rcases hf with rfl | rfl | rfl | rfl | rfl | rfl <;> rfl

/-! slices.Clone. -/
def CloneRow {α : Type} (g : α → List Value) (k : Nat) (e : TypeId) (n : Nat) (L : List α) (w : World) (en : Ending) (w' : World) : Prop := ∃ A c, en = .returned (.slice A n c) ∧ w'.ownsRow w.heap.size e k (.slice A n c) n (cells g L) ∧ Only Nobody w w'
theorem run_eql_some_nil' {P : Program} (w : World) (t e : TypeId) (ad : Addr) (n c : Nat) (h : P.underlying t = some (.slice e)) : (binOp .eql t (.slice (some ad) n c) (.slice none 0 0)).run P w = .ok (.bool false) w := by
  rw [Lib.run_eql_slice_nil (P := P) w t e (some ad) n c 0 0 h]; rfl
set_option maxRecDepth 100000 in
set_option maxHeartbeats 1000000 in
theorem clonef_any (A : Option Addr) (n c : Nat) (L : List FC) (S : Nat → Prop) (w : World) (h : RowA FC.vals 7 w S A n L) (hn : n ≤ 1353245080300) :
    Calls Tryd.prog 52 #[.slice A n c] w (CloneRow FC.vals 7 72 n L w) := by
  cases A with
  | none =>
    obtain rfl : n = 0 := by
      rcases Nat.eq_zero_or_pos n with e | e
      · exact e
      · obtain ⟨ad, e⟩ := h.some_ e
        cases e
    have hl : L = [] := List.eq_nil_of_length_eq_zero h.len
    subst hl
    have hs := fun w => Lib.run_eql_slice_nil (P := Tryd.prog) w 23 72 none 0 c 0 0 Tryd.underlying23
    go_enter Tryd.func52, Tryd.ntmps52
    go_wp2
    go_ret
    exact ⟨none, 0, rfl, World.ownsRow_nil _ _ _ _, Only.refl _ _⟩
  | some ad =>
    have hs := fun w => run_eql_some_nil' (P := Tryd.prog) w 23 72 ad n c Tryd.underlying23
    obtain ⟨i0, hi, hz0, hz1, hz2⟩ := info_parts infoF
    have hA : Hid (∀ w', Only Nobody w w' → Reads w' w'.heap.size 7 (some ad) n (cells FC.vals L)) := Lib.hid fun w' h' => (h.same h').rd
    have h1' := Lib.hid (one_fs L)
    have HB : Hid (0 + n ≤ maxLen ∧ (0 + n) * 104 ≤ 140737488355328) := Lib.hid ⟨by unfold maxLen; omega, by omega⟩
    clear h
    go_enter Tryd.func52, Tryd.ntmps52
    go_wp2_with (at_builtin
                 refine wpList_append_any _ rfl (.tmp 5) (.tmp 6) _ rfl w.heap.size 72 i0 _ 7 104 Tryd.underlying23 hi hz0 hz1 hz2 rfl (by omega) (.slice (some ⟨w.heap.size, 0, none⟩) 0 0) 0 [] rfl ⟨rfl, .inr ⟨w.heap.size, 0, #[], rfl, Nat.le_refl _, heap_alloc_new w _, Nat.le_refl _, by simp [maxLen], rfl, rfl⟩⟩ _ (some ad) n c (cells FC.vals L) rfl (hA.out _ ((Only.refl _ _).alloc _)) h1'.out HB.out.1 HB.out.2 (by simp) ?_
                 intro v1 w1 hown1 hg1 hat1
                 have HO1 := Lib.hid hown1
                 have HG1 := Lib.hid hg1
                 clear hown1 hg1 hat1)
    go_ret
    have ho : w1.ownsRow w.heap.size 72 7 v1 n (cells FC.vals L) := by
      have := HO1.out
      simpa using this
    have hO : Only Nobody w w1 := (Only.refl Nobody w).trans_more (((Only.refl (More Nobody w) w).alloc _).trans (Only.of_grown HG1.out (fun k e => .inr (by simp only [Value.ownBlock, Option.some.injEq] at e; omega))))
    rcases ho.2 with ⟨rfl, h0⟩ | ⟨g, cap, cur, rfl, _⟩
    · subst h0
      exact ⟨none, 0, rfl, ho, hO⟩
    · exact ⟨_, _, rfl, ho, hO⟩
set_option maxRecDepth 100000 in
set_option maxHeartbeats 1000000 in
theorem clonev_any (A : Option Addr) (n c : Nat) (L : List VC) (S : Nat → Prop) (w : World) (h : RowA VC.vals 6 w S A n L) (hn : n ≤ 1599289640355) :
    Calls Tryd.prog 54 #[.slice A n c] w (CloneRow VC.vals 6 25 n L w) := by
  cases A with
  | none =>
    obtain rfl : n = 0 := by
      rcases Nat.eq_zero_or_pos n with e | e
      · exact e
      · obtain ⟨ad, e⟩ := h.some_ e
        cases e
    have hl : L = [] := List.eq_nil_of_length_eq_zero h.len
    subst hl
    have hs := fun w => Lib.run_eql_slice_nil (P := Tryd.prog) w 22 25 none 0 c 0 0 Tryd.underlying22
    go_enter Tryd.func54, Tryd.ntmps54
    go_wp2
    go_ret
    exact ⟨none, 0, rfl, World.ownsRow_nil _ _ _ _, Only.refl _ _⟩
  | some ad =>
    have hs := fun w => run_eql_some_nil' (P := Tryd.prog) w 22 25 ad n c Tryd.underlying22
    obtain ⟨i0, hi, hz0, hz1, hz2⟩ := info_parts infoV
    have hA : Hid (∀ w', Only Nobody w w' → Reads w' w'.heap.size 6 (some ad) n (cells VC.vals L)) := Lib.hid fun w' h' => (h.same h').rd
    have h1' := Lib.hid (one_vs' L)
    have HB : Hid (0 + n ≤ maxLen ∧ (0 + n) * 88 ≤ 140737488355328) := Lib.hid ⟨by unfold maxLen; omega, by omega⟩
    clear h
    go_enter Tryd.func54, Tryd.ntmps54
    go_wp2_with (at_builtin
                 refine wpList_append_any _ rfl (.tmp 5) (.tmp 6) _ rfl w.heap.size 25 i0 _ 6 88 Tryd.underlying22 hi hz0 hz1 hz2 rfl (by omega) (.slice (some ⟨w.heap.size, 0, none⟩) 0 0) 0 [] rfl ⟨rfl, .inr ⟨w.heap.size, 0, #[], rfl, Nat.le_refl _, heap_alloc_new w _, Nat.le_refl _, by simp [maxLen], rfl, rfl⟩⟩ _ (some ad) n c (cells VC.vals L) rfl (hA.out _ ((Only.refl _ _).alloc _)) h1'.out HB.out.1 HB.out.2 (by simp) ?_
                 intro v1 w1 hown1 hg1 hat1
                 have HO1 := Lib.hid hown1
                 have HG1 := Lib.hid hg1
                 clear hown1 hg1 hat1)
    go_ret
    have ho : w1.ownsRow w.heap.size 25 6 v1 n (cells VC.vals L) := by
      have := HO1.out
      simpa using this
    have hO : Only Nobody w w1 := (Only.refl Nobody w).trans_more (((Only.refl (More Nobody w) w).alloc _).trans (Only.of_grown HG1.out (fun k e => .inr (by simp only [Value.ownBlock, Option.some.injEq] at e; omega))))
    rcases ho.2 with ⟨rfl, h0⟩ | ⟨g, cap, cur, rfl, _⟩
    · subst h0
      exact ⟨none, 0, rfl, ho, hO⟩
    · exact ⟨_, _, rfl, ho, hO⟩
/-! slices.Insert of one field. -/
theorem shape_blk {w : World} {g : Nat} {t : TypeId} {cs : Array Value} (h : Blk w g t cs) : w.shape? g = some (t, cs.size) := by
  unfold Blk at h
  simp [World.shape?, h]
def InsPost (A : Option Addr) (n c : Nat) (base : Nat) (F : List FC) (w : World) (e : Ending) (w' : World) : Prop :=
  ∃ A' c', e = .returned (.slice A' (n + 1) c') ∧ w'.ownsRow base 72 7 (.slice A' (n + 1) c') (n + 1) (cells FC.vals F) ∧ Only (fun b => Value.ownBlock (.slice A n c) = some b) w w'
set_option maxRecDepth 100000 in
set_option maxHeartbeats 1000000 in
theorem ins_end (A : Option Addr) (n c base vb : Nat) (F : List FC) (x : FC) (w : World) (h : w.ownsRow base 72 7 (.slice A n c) n (cells FC.vals F)) (hF : F.length = n) (hnc : n ≤ c) (hn : n ≤ 100000) (hx : Blk w vb 72 x.vals.toArray) (hbase : base ≤ w.heap.size) :
    Calls Tryd.prog 51 #[.slice A n c, .int .i64 n, .slice (some ⟨vb, 0, none⟩) 1 1] w (InsPost A n c base (F ++ [x]) w) := by
  obtain ⟨i0, hi0, hz0, hz1, hz2⟩ := info_parts infoF
  have HOW := Lib.hid h
  have HRD : Hid (Reads w w.heap.size 7 (some ⟨vb, 0, none⟩) 1 x.vals) := Lib.hid ⟨rfl, fun _ => ⟨_, rfl, hx.lt, fun j u hu => by
    have ea : Addr.add ⟨vb, 0, none⟩ j = ⟨vb, j, none⟩ := by unfold Addr.add; split <;> simp_all
    rw [ea, hx.cell j]
    simpa using hu⟩⟩
  have HU : Hid (∀ u ∈ x.vals, u.oneCell' = true) := Lib.hid fun u hu => one_fs [x] u (by simpa [cells] using hu)
  have HBY : Hid (n + 1 ≤ maxLen ∧ (n + 1) * 104 ≤ 140737488355328) := Lib.hid ⟨by unfold maxLen; omega, by omega⟩
  have HBB := Lib.hid hbase
  have hncI : (n : Int) ≤ (c : Int) := by omega
  have hn0 : (0 : Int) ≤ (n : Int) := by omega
  clear h hx
  go_enter Tryd.func51, Tryd.ntmps51
  go_wp2_with (at_builtin; refine wpList_append_any _ rfl (.tmp 23) (.tmp 24) _ rfl base 72 i0 _ 7 104 Tryd.underlying23 hi0 hz0 hz1 hz2 rfl (by omega) (.slice A n c) n (cells FC.vals F) rfl HOW.out w.heap.size (some ⟨vb, 0, none⟩) 1 1 x.vals rfl HRD.out HU.out HBY.out.1 HBY.out.2 HBB.out ?_; intro v1 w1 hown1 hg1 hat1; have HO1 := Lib.hid hown1; have HG1 := Lib.hid hg1; clear hown1 hg1 hat1)
  all_goals
    go_ret
    have ho := HO1.out
    rcases ho.2 with ⟨_, h0⟩ | ⟨g, cap, cur, rfl, hr⟩
    · omega
    · refine ⟨_, _, rfl, ?_, Only.of_grown HG1.out (fun k e => by cases A <;> exact e)⟩
      rw [cells_append]
      have e : cells FC.vals [x] = x.vals := by simp [cells]
      rw [e]
      exact ho

/-- What an own row with a block holds. -/
theorem row_parts {w : World} {base g n c : Nat} {F : List FC} (h : w.ownsRow base 72 7 (.slice (some ⟨g, 0, none⟩) n c) n (cells FC.vals F)) (hn : 0 < n) : ∃ cur, base ≤ g ∧ Blk w g 72 cur ∧ n ≤ c ∧ c ≤ maxLen ∧ cur.size = c * 7 ∧ cur.toList.take (n * 7) = cells FC.vals F := by
  rcases h.2 with ⟨h1, h0⟩ | ⟨g', cap, cur, hv, hb, hg, hc, hm, hs, ht⟩
  · omega
  · injection hv with h1 h2 h3
    injection h1 with h1
    injection h1 with h1
    subst h1 h3
    exact ⟨cur, hb, hg, hc, hm, hs, ht⟩
theorem take_cells {F : List FC} {i : Nat} (hi : i ≤ F.length) : (cells FC.vals F).take (i * 7) = cells FC.vals (F.take i) ∧ (cells FC.vals F).drop (i * 7) = cells FC.vals (F.drop i) := by
  have e : cells FC.vals F = cells FC.vals (F.take i) ++ cells FC.vals (F.drop i) := by rw [← cells_append, List.take_append_drop]
  have hl : (cells FC.vals (F.take i)).length = i * 7 := by rw [cells_length flen, List.length_take]; congr 1; omega
  rw [e]
  constructor
  · rw [List.take_append_of_le_length (by omega), List.take_of_length_le (by omega)]
  · rw [List.drop_append_of_le_length (by omega), List.drop_of_length_le (by omega), List.nil_append]
theorem ins_len {F : List FC} {x : FC} {i n : Nat} (hF : F.length = n) (hi : i ≤ n) : (cells FC.vals (F.take i ++ x :: F.drop i)).length = (n + 1) * 7 := by
  rw [cells_length flen]
  congr 1
  simp only [List.length_append, List.length_cons, List.length_take, List.length_drop]
  omega
set_option maxRecDepth 100000 in
set_option maxHeartbeats 2000000 in
theorem ins_room (g n c base vb i : Nat) (F : List FC) (x : FC) (w : World) (h : w.ownsRow base 72 7 (.slice (some ⟨g, 0, none⟩) n c) n (cells FC.vals F)) (hF : F.length = n) (hnc : n + 1 ≤ c) (hn : n ≤ 100000) (hi : i < n) (hx : Blk w vb 72 x.vals.toArray) (hvg : vb ≠ g) :
    Calls Tryd.prog 51 #[.slice (some ⟨g, 0, none⟩) n c, .int .i64 i, .slice (some ⟨vb, 0, none⟩) 1 1] w (InsPost (some ⟨g, 0, none⟩) n c base (F.take i ++ x :: F.drop i) w) := by
  obtain ⟨cur, hb, hgk, _, hcm, hcs, htk⟩ := row_parts h (by omega)
  have hsz : (Tryd.prog.info? 72).map (·.size) = some 7 := by kernel_rfl
  obtain ⟨i0, hi0, hz0, hz1, hz2⟩ := info_parts infoF
  have hrs : ∀ w, (Go.sizeOf 72).run Tryd.prog w = .ok 7 w := fun w => by simp [sizeOf, typeInfo, hi0, hz1]
  have hov : ∀ lb cb, (callFunc 64 #[.slice (some ⟨vb, 0, none⟩) 1 1, .slice (some ⟨g, (i + 1) * 7, none⟩) lb cb]).run Tryd.prog w = .ok (.value (.bool false)) w := fun lb cb => by
    rw [run_callFunc_extern Tryd.func64 (by kernel_rfl) (by kernel_rfl) (by kernel_rfl) (e := Extern.SlicesOverlaps.overlaps #[23, 23] #[4]) (by kernel_rfl),
      Lib.run_overlaps_apart w 23 4 72 Tryd.underlying23 7 hrs ⟨vb, 0, none⟩ ⟨g, (i + 1) * 7, none⟩ 1 1 lb cb hvg _ _ _ _ (shape_blk hx) (shape_blk hgk) (by omega) (hx.frozen 0) (hx.frozen _)]
    rfl
  have hli : (cells FC.vals (F.take i)).length = i * 7 := by rw [cells_length flen, List.length_take]; congr 1; omega
  have hcsz : n * 7 + 7 ≤ cur.size := by omega
  obtain ⟨D, HD⟩ : ∃ D, Hid (D = cells FC.vals (F.drop i)) := ⟨_, Lib.hid rfl⟩
  have hdl : D.length = (n - i) * 7 := by rw [HD.out, cells_length flen, List.length_drop, hF]
  have HD1 : Hid (∀ u ∈ D, u.oneCell' = true) := Lib.hid (by rw [HD.out]; exact one_fs _)
  have HX1 : Hid (∀ u ∈ x.vals, u.oneCell' = true) := Lib.hid fun u hu => one_fs [x] u (by simpa [cells] using hu)
  have HDC : Hid (∀ (j : Nat) (u : Value), D[j]? = some u → cur[i * 7 + j]? = some u) := Lib.hid fun j u hu => by
    rw [HD.out, ← (take_cells (F := F) (by omega)).2, List.getElem?_drop, ← htk] at hu
    rw [← Array.getElem?_toList]
    have hj : i * 7 + j < n * 7 := by
      have := (List.getElem?_eq_some_iff.1 hu).1
      rw [List.length_take] at this
      omega
    rw [List.getElem?_take_of_lt hj] at hu
    exact hu
  have HPC : Hid (cur.toList.take (i * 7) = cells FC.vals (F.take i)) := Lib.hid (by
    rw [← (take_cells (F := F) (by omega)).1, ← htk, List.take_take, Nat.min_eq_left (by omega)])
  have HGK := Lib.hid hgk
  have HBG := Lib.hid hb
  have HX := Lib.hid hx
  have hw1 : IntKind.i64.wrap ((i : Int) + 1) = (i : Int) + 1 := by rw [IntKind.wrap_i64]; omega
  have hw2 : IntKind.i64.wrap ((n : Int) + 1) = (n : Int) + 1 := by rw [IntKind.wrap_i64]; omega
  have hin : ¬ ((i : Int) = (n : Int)) := by omega
  have hi0I : (0 : Int) ≤ (i : Int) := by omega
  have hiI : (i : Int) ≤ (n : Int) := by omega
  have hncI : (n : Int) + 1 ≤ (c : Int) := by omega
  have hncJ : ¬ ((c : Int) < (n : Int) + 1) := by omega
  have hci : ¬ (c = i) := by omega
  have mixed : Tryd.prog.follows Departure.mixedOrders = true := by kernel_rfl
  have hb1 : (0 : Int) ≤ (i : Int) + 1 := by omega
  have htn : ((i : Int) + 1).toNat = i + 1 := by omega
  have htn2 : ((n : Int) + 1).toNat = n + 1 := by omega
  have hb3 : (i : Int) ≤ (n : Int) + 1 := by omega
  have hb4 : (i : Int) + 1 ≤ (n : Int) + 1 := by omega
  have hci1 : ¬ (c = i + 1) := by omega
  clear h hx hgk htk hb hi0 hz0 hz1 hz2 hrs
  go_enter Tryd.func51, Tryd.ntmps51
  go_wp2_with (simp only [hov])
  have HSRC : Hid (∀ (j : Nat) (u : Value), D[j]? = some u → w.drew.cell? (Addr.add ⟨g, i * 7, none⟩ j) = some u) := Lib.hid fun j u hu => by
    rw [Addr.add_lit]
    exact (HGK.out.drew.cell _).trans (HDC.out j u hu)
  have HFIT : Hid ((i + 1) * 7 + D.length ≤ cur.size) := Lib.hid (by rw [hdl]; omega)
  have HFT2 : Hid (i * 7 + x.vals.length ≤ (splice cur.toList ((i + 1) * 7) D).toArray.size) := Lib.hid (by
    have h1 : (splice cur.toList ((i + 1) * 7) D).length = cur.toList.length := length_splice _ _ _ (by rw [hdl, Array.length_toList]; omega)
    rw [List.size_toArray, h1, flen, Array.length_toList]
    omega)
  go_region_law_o (refine step_copy_k rfl (.tmp 73) (.tmp 76) 23 23 rfl 72 7 Tryd.underlying23 hsz g ((i + 1) * 7) (n + 1 - (i + 1)) (c - (i + 1)) ⟨g, i * 7, none⟩ (n + 1 - i) (c - i) (by simp [Act.eval, Act.put]) (by simp [Act.eval, Act.put]) cur 72 HGK.out D (by rw [hdl]; congr 1; simp only [Nat.min_def]; split <;> omega) HSRC.out HFIT.out HD1.out ?_; intro w3 hg3 ho3; have HO3 : Hid (Only (fun b => b = g) w w3) := Lib.hid (Only.trans (Only.refl _ _).drew ho3); have HX3 : Hid (Blk w3 vb 72 x.vals.toArray) := Lib.hid (HO3.out.blk HX.out hvg); clear ho3)
  have HSR2 : Hid (∀ (j : Nat) (u : Value), x.vals[j]? = some u → w3.cell? (Addr.add ⟨vb, 0, none⟩ j) = some u) := Lib.hid fun j u hu => by
    rw [Addr.add_lit, Nat.zero_add, HX3.out.cell j]
    simpa using hu
  obtain ⟨w4, hg4, ho4, hcp⟩ : ∃ w4, Hid (w4.heap[g]? = some (.cells (splice (splice cur.toList ((i + 1) * 7) D).toArray.toList (i * 7) x.vals).toArray 72 (0, 0))) ∧ Hid (Only (fun b => b = g) w3 w4) ∧ ∀ ty, (Builtin.copy_ #[23, 23] ty #[.slice (some ⟨g, i * 7, none⟩) (n + 1 - i) (c - i), .slice (some ⟨vb, 0, none⟩) 1 1]).run Tryd.prog w3 = .ok (goInt (Nat.min 1 (n + 1 - i))) w4 :=
    ⟨_, (show _ = _ by simpa [splice] using setRow_heap w3 g _ _ _ _ hg3.out), only_setRow _ _ _, fun ty => run_copy_k w3 _ _ ty 72 g (i * 7) (n + 1 - i) (c - i) ⟨vb, 0, none⟩ 1 1 _ _ x.vals 7 Tryd.underlying23 hsz hg3.out (by rw [flen]; simp only [Nat.min_def]; split <;> omega) HSR2.out HFT2.out HX1.out⟩
  go_wp2_with fail
  go_ret
  have hr4 : Blk w4 g 72 _ := hg4.out
  refine ⟨some ⟨g, 0, none⟩, c, rfl, ⟨?_, .inr ⟨g, c, _, rfl, HBG.out, hr4, by omega, hcm, ?_, ?_⟩⟩, (HO3.out.trans ho4.out).mono (fun b e => by rw [e]; rfl)⟩
  · exact ins_len hF (by omega)
  · have h1 : (splice cur.toList ((i + 1) * 7) D).length = cur.toList.length := length_splice _ _ _ (by rw [hdl, Array.length_toList]; omega)
    have h2 : (splice (splice cur.toList ((i + 1) * 7) D) (i * 7) x.vals).length = (splice cur.toList ((i + 1) * 7) D).length := length_splice _ _ _ (by rw [h1, flen, Array.length_toList]; omega)
    rw [List.size_toArray, List.toList_toArray, h2, h1, Array.length_toList, hcs]
  · have h3 := splice_two' cur.toList x.vals D (i * 7) (by rw [flen, hdl, Array.length_toList]; omega)
    rw [flen, hdl, HPC.out, HD.out] at h3
    rw [List.toList_toArray, List.toList_toArray, HD.out, show (i + 1) * 7 = i * 7 + 7 by omega, show (n + 1) * 7 = i * 7 + 7 + (n - i) * 7 by omega, h3, cells_append]
    simp [cells]

/-- 'append(s, make([]T, k)...)' where there is no room: a new row whose first cells are s's own. -/
theorem wpList_append_zeros_k {P : Program} (w : World) {ops : Array Oper} {rest : List Oper} {o : Oper} {a : Act} {Q : Exit → Act → World → Prop} (hgd : o.guard = none) (s x : Operand) (t tn e : TypeId)
    (ho : o.op = .call { callee := .builtin .append, args := #[s, x], argTypes := #[t, tn] }) (i : TypeInfo) (zv : Value) (size bytes : Nat) (kn : IntKind) (ht : P.underlying t = some (.slice e)) (htn : P.underlying tn = some (.int kn)) (hi : P.info? e = some i) (hz : i.zero = some zv)
    (hsize : i.size = size) (hby : i.bytes = bytes) (hzs : zv.cells.size = size) (hsz : 0 < size) (b : Addr) (m c k : Nat) (z : Int) (olds : List Value) (hs : a.eval s = .slice (some b) m c) (hx : a.eval x = .int .i64 z) (hzk : z = (k : Int))
    (hl : olds.length = m * size) (hold : ∀ (j : Nat) (u : Value), olds[j]? = some u → w.cell? (b.add j) = some u) (h0 : 0 < k) (hg : c < m + k) (hbig : (m + k) * bytes ≤ 140737488355328) (h63 : m + k ≤ maxLen)
    (h : ∀ (w' : World) (G : Nat) (ROW : Array Value), m + k ≤ G → G ≤ maxLen → Hid (Blk w' w.heap.size e ROW) → Hid (ROW.size = G * size) → Hid (ROW.toList.take (m * size) = olds) → Hid (Only Nobody w w') → wpList P ops Q rest (a.put o.dst (.slice (some ⟨w.heap.size, 0, none⟩) (m + k) G)) w') : wpList P ops Q (o :: rest) a w := by
  subst hzk hsize hby
  have hold' : (Builtin.firstCells i.size m (.slice (some b) m c)).run P w.drew = .ok olds.toArray w.drew := run_firstCells_some w.drew i.size m b m c olds hl (fun j u hu => hold j u hu)
  have hr := fun ty => Lib.run_append_grow_zeros w t tn ty e i zv .i64 kn ht htn hi hz (some b) m c olds hold' k h0 hsz hg (by unfold maxLen at h63; omega) (by
    have := Nat.mul_le_mul_right i.bytes (show k ≤ m + k by omega)
    omega) (growslice_fits (by omega) hbig)
  have hG := grownCap_ge w (m + k) c e
  have hG2 := grownCap_le_maxLen w (m + k) c e h63
  refine Lib.wpList_append_run w hgd s x t tn ho _ _ hs hx _ _ (hr o.type) (h _ _ _ hG hG2 (Blk.new w.drew _ _) ?_ ?_ ((Only.refl _ _).drew.alloc _))
  · show _ = _
    simp only [Array.size_append, List.size_toArray, Builtin.zeroCells, Array.size_map, Array.size_range, hl, hzs]
    rw [← Nat.add_mul, ← Nat.add_mul]
    congr 1
    omega
  · show _ = _
    simp only [Array.toList_append, List.append_assoc]
    rw [List.take_append_of_le_length (by omega), List.take_of_length_le (by omega)]
theorem Only.nobody_ {w w' : World} (h : Only Nobody w w') (F : Nat → Prop) : Only F w w' := h.mono (fun _ x => x.elim)
theorem grow_copy (w w3 : World) (vb i n G : Nat) (ROW : Array Value) (x : FC) (hi : i < n) (hG : n + 1 ≤ G) (hbk : Hid (Blk w3 w.heap.size 72 ROW)) (hrs : Hid (ROW.size = G * 7)) (hx : Hid (Blk w vb 72 x.vals.toArray)) (ho : Hid (Only Nobody w w3)) :
    ∃ w4, Hid (w4.heap[w.heap.size]? = some (.cells (splice ROW.toList (i * 7) x.vals).toArray 72 (0, 0))) ∧ Hid (Only (fun b => b = w.heap.size) w3 w4) ∧ ∀ ty, (Builtin.copy_ #[23, 23] ty #[.slice (some ⟨w.heap.size, i * 7, none⟩) (n + 1 - i) (G - i), .slice (some ⟨vb, 0, none⟩) 1 1]).run Tryd.prog w3 = .ok (goInt (Nat.min 1 (n + 1 - i))) w4 :=
  ⟨_, (show _ = _ by simpa [splice] using setRow_heap w3 w.heap.size _ _ _ _ hbk.out), only_setRow _ _ _, fun ty => run_copy_k w3 _ _ ty 72 w.heap.size (i * 7) (n + 1 - i) (G - i) ⟨vb, 0, none⟩ 1 1 _ _ x.vals 7 Tryd.underlying23 (by kernel_rfl) hbk.out (by rw [flen]; simp only [Nat.min_def]; split <;> omega) (fun j u hu => by
    rw [Addr.add_lit, Nat.zero_add, (ho.out.blk hx.out (fun x => x)).cell j]
    simpa using hu) (by rw [flen, hrs.out]; omega) (fun u hu => one_fs [x] u (by simpa [cells] using hu))⟩
set_option maxRecDepth 100000 in
set_option maxHeartbeats 2000000 in
theorem ins_grow (g n base vb i : Nat) (F : List FC) (x : FC) (w : World) (h : w.ownsRow base 72 7 (.slice (some ⟨g, 0, none⟩) n n) n (cells FC.vals F)) (hF : F.length = n) (hn : n ≤ 100000) (hi : i < n) (hx : Blk w vb 72 x.vals.toArray) (hbase : base ≤ w.heap.size) :
    Calls Tryd.prog 51 #[.slice (some ⟨g, 0, none⟩) n n, .int .i64 i, .slice (some ⟨vb, 0, none⟩) 1 1] w (InsPost (some ⟨g, 0, none⟩) n n base (F.take i ++ x :: F.drop i) w) := by
  obtain ⟨cur, hb, hgk, _, hcm, hcs, htk⟩ := row_parts h (by omega)
  have hsz : (Tryd.prog.info? 72).map (·.size) = some 7 := by kernel_rfl
  obtain ⟨i0, hi0, hz0, hz1, hz2⟩ := info_parts infoF
  have hli : (cells FC.vals (F.take i)).length = i * 7 := by rw [cells_length flen, List.length_take]; congr 1; omega
  obtain ⟨D, HD⟩ : ∃ D, Hid (D = cells FC.vals (F.drop i)) := ⟨_, Lib.hid rfl⟩
  obtain ⟨E, HE⟩ : ∃ E, Hid (E = cells FC.vals (F.take i)) := ⟨_, Lib.hid rfl⟩
  have hel : E.length = i * 7 := by rw [HE.out]; exact hli
  have hdl : D.length = (n - i) * 7 := by rw [HD.out, cells_length flen, List.length_drop, hF]
  have HD1 : Hid (∀ u ∈ D, u.oneCell' = true) := Lib.hid (by rw [HD.out]; exact one_fs _)
  have HX1 : Hid (∀ u ∈ x.vals, u.oneCell' = true) := Lib.hid fun u hu => one_fs [x] u (by simpa [cells] using hu)
  have hkey : ∀ (j : Nat) (u : Value), (cells FC.vals F)[j]? = some u → cur[j]? = some u := fun j u hu => by
    rw [← htk] at hu
    rw [← Array.getElem?_toList]
    have hj : j < n * 7 := by
      have := (List.getElem?_eq_some_iff.1 hu).1
      rw [List.length_take] at this
      omega
    rw [List.getElem?_take_of_lt hj] at hu
    exact hu
  have HDC : Hid (∀ (j : Nat) (u : Value), D[j]? = some u → cur[i * 7 + j]? = some u) := Lib.hid fun j u hu => by
    rw [HD.out, ← (take_cells (F := F) (by omega)).2, List.getElem?_drop] at hu
    exact hkey _ _ hu
  have HGK := Lib.hid hgk
  have HOLD : Hid (∀ (j : Nat) (u : Value), E[j]? = some u → w.cell? (Addr.add ⟨g, 0, none⟩ j) = some u) := Lib.hid fun j u hu => by
    rw [Addr.add_lit, Nat.zero_add, hgk.cell j]
    refine hkey j u ?_
    rw [HE.out, ← (take_cells (F := F) (by omega)).1] at hu
    have hj : j < i * 7 := by
      have := (List.getElem?_eq_some_iff.1 hu).1
      rw [List.length_take] at this
      omega
    rw [List.getElem?_take_of_lt hj] at hu
    exact hu
  have HX := Lib.hid hx
  have HBB := Lib.hid hbase
  have HSB : Hid (i + (n + 1 - i) ≤ maxLen ∧ (i + (n + 1 - i)) * 104 ≤ 140737488355328) := Lib.hid ⟨by unfold maxLen; omega, by omega⟩
  have hgl := hgk.lt
  have hvl := hx.lt
  have hw1 : IntKind.i64.wrap ((i : Int) + 1) = (i : Int) + 1 := by rw [IntKind.wrap_i64]; omega
  have hw2 : IntKind.i64.wrap ((n : Int) + 1) = (n : Int) + 1 := by rw [IntKind.wrap_i64]; omega
  have hw3 : IntKind.i64.wrap ((n : Int) + 1 - (i : Int)) = (n : Int) + 1 - (i : Int) := by rw [IntKind.wrap_i64]; omega
  have hin : ¬ ((i : Int) = (n : Int)) := by omega
  have hi0I : (0 : Int) ≤ (i : Int) := by omega
  have hiI : (i : Int) ≤ (n : Int) := by omega
  have hncJ : (n : Int) < (n : Int) + 1 := by omega
  have hci : ¬ (n = i) := by omega
  have mixed : Tryd.prog.follows Departure.mixedOrders = true := by kernel_rfl
  have hb1 : (0 : Int) ≤ (i : Int) + 1 := by omega
  have htn : ((i : Int) + 1).toNat = i + 1 := by omega
  have htn2 : ((n : Int) + 1).toNat = n + 1 := by omega
  have hb3 : (i : Int) ≤ (n : Int) + 1 := by omega
  have hb4 : (i : Int) + 1 ≤ (n : Int) + 1 := by omega
  clear h hx hgk htk hb hkey
  go_enter Tryd.func51, Tryd.ntmps51
  go_wp2_with (at_builtin; refine wpList_append_zeros_k w rfl (.tmp 34) (.tmp 39) 23 3 72 rfl i0 _ 7 104 .i64 Tryd.underlying23 Tryd.underlying3 hi0 hz0 hz1 hz2 rfl (by omega) ⟨g, 0, none⟩ i n (n + 1 - i) _ E rfl rfl (by omega) hel HOLD.out (by omega) (by omega) HSB.out.2 HSB.out.1 ?_; intro w3 G ROW hG1 hG2 hbk hrs hrt ho3; rw [show i + (n + 1 - i) = n + 1 by omega] at hG1 ⊢; have hGi : ¬ (G = i) := (by omega); have hGi1 : ¬ (G = i + 1) := (by omega); obtain ⟨w4, hg4, ho4, hcp⟩ := grow_copy w w3 vb i n G ROW x hi hG1 hbk hrs HX ho3)
  have HX4 : Hid (Blk w4 w.heap.size 72 (splice ROW.toList (i * 7) x.vals).toArray) := Lib.hid hg4.out
  have HO4 : Hid (Only (fun b => b = w.heap.size) w w4) := Lib.hid ((ho3.out.nobody_ _).trans ho4.out)
  have HGK4 : Hid (Blk w4.drew g 72 cur) := Lib.hid (HO4.out.blk HGK.out (by omega))
  have HSRC : Hid (∀ (j : Nat) (u : Value), D[j]? = some u → w4.drew.cell? (Addr.add ⟨g, i * 7, none⟩ j) = some u) := Lib.hid fun j u hu => by
    rw [Addr.add_lit]
    exact (HGK4.out.cell _).trans (HDC.out j u hu)
  have HRL : Hid ((splice ROW.toList (i * 7) x.vals).length = G * 7) := Lib.hid (by
    rw [length_splice _ _ _ (by rw [flen, Array.length_toList, hrs.out]; omega), Array.length_toList, hrs.out])
  have HFIT : Hid ((i + 1) * 7 + D.length ≤ (splice ROW.toList (i * 7) x.vals).toArray.size) := Lib.hid (by rw [hdl, List.size_toArray, HRL.out]; omega)
  go_region_law_o (refine step_copy_k rfl (.tmp 50) (.tmp 53) 23 23 rfl 72 7 Tryd.underlying23 hsz w.heap.size ((i + 1) * 7) (n + 1 - (i + 1)) (G - (i + 1)) ⟨g, i * 7, none⟩ (n - i) (n - i) (by simp [Act.eval, Act.put]) (by simp [Act.eval, Act.put]) _ 72 HX4.out D (by rw [hdl]; congr 1; simp only [Nat.min_def]; split <;> omega) HSRC.out HFIT.out HD1.out ?_; intro w5 hg5 ho5)
  go_wp2_with fail
  go_ret
  have hr5 : Blk w5 w.heap.size 72 _ := hg5.out
  have HO5 : Only (fun b => b = w.heap.size) w w5 := HO4.out.trans (Only.trans (Only.refl _ _).drew ho5)
  refine ⟨some ⟨w.heap.size, 0, none⟩, G, rfl, ⟨ins_len hF (by omega), .inr ⟨w.heap.size, G, _, rfl, HBB.out, hr5, hG1, hG2, ?_, ?_⟩⟩, HO5.mono_lt (fun b hb e => by omega)⟩
  · have h2 : (splice (splice ROW.toList (i * 7) x.vals).toArray.toList ((i + 1) * 7) D).length = (splice ROW.toList (i * 7) x.vals).toArray.toList.length := length_splice _ _ _ (by rw [hdl, List.toList_toArray, HRL.out]; omega)
    rw [List.size_toArray, h2, List.toList_toArray, HRL.out]
  · have h3 := splice_two ROW.toList x.vals D (i * 7) (by rw [flen, hdl, Array.length_toList, hrs.out]; omega)
    rw [flen, hdl, hrt.out, HE.out, HD.out] at h3
    rw [List.toList_toArray, List.toList_toArray, HD.out, show (i + 1) * 7 = i * 7 + 7 by omega, show (n + 1) * 7 = i * 7 + 7 + (n - i) * 7 by omega, h3, cells_append]
    simp [cells]

end Go.Proofs.YtdccckoelnnnoaaDoor
