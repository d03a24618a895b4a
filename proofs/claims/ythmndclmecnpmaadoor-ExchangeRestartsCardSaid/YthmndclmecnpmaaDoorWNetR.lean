/- The walks of heap.Push and heap.Pop. -/
import Derived.Test.YthmndclmecnpmaaDoorWNetH
namespace Go.Proofs.YthmndclmecnpmaaDoor.Nw
open Go.RowKit

/-- A queue in box k: its header, its row (if it has one), its elements. F: the blocks that it may be in. -/
def QAt (w : World) (F : Nat → Prop) (k : Nat) (q : List Cp) : Prop :=
  ∃ v, Blk w k 121 #[v] ∧ w.ownsRow 0 124 5 v q.length (cellsOf q) ∧ F k ∧ ∀ g, v.ownBlock = some g → F g

set_option maxRecDepth 100000 in
theorem QAt.keep {w w' : World} {F G : Nat → Prop} {k : Nat} {q : List Cp} (h : QAt w F k q) (ho : Only G w w') (hd : ∀ b, F b → ¬ G b) : QAt w' F k q := by
  obtain ⟨v, hb, hr, hk, hg⟩ := h
  exact ⟨v, ho.blk hb (hd k hk), ho.row hr (fun g e => hd g (hg g e)), hk, hg⟩
set_option maxRecDepth 100000 in
theorem QAt.mono {w : World} {F G : Nat → Prop} {k : Nat} {q : List Cp} (h : QAt w F k q) (hFG : ∀ b, F b → G b) : QAt w G k q := by
  obtain ⟨v, hb, hr, hk, hg⟩ := h
  exact ⟨v, hb, hr, hFG k hk, fun g e => hFG g (hg g e)⟩
set_option maxRecDepth 100000 in
theorem QAt.row {w : World} {F : Nat → Prop} {k : Nat} {q : List Cp} (h : QAt w F k q) (h0 : 0 < q.length) : ∃ g cap, QRow w k g q.length cap q ∧ F g ∧ F k := by
  obtain ⟨v, hb, hr, hk, hg⟩ := h
  obtain ⟨g, cap, rfl, _, _⟩ := hr.form h0
  exact ⟨g, cap, ⟨hb, hr, rfl⟩, hg g rfl, hk⟩
set_option maxRecDepth 100000 in
theorem QRow.at_ {w : World} {F : Nat → Prop} {k g n cap : Nat} {q : List Cp} (h : QRow w k g n cap q) (hg : F g) (hk : F k) : QAt w F k q :=
  ⟨_, h.box, by rw [h.len]; exact h.row, hk, fun g' e => by simp only [Value.ownBlock, Option.some.injEq] at e; subst e; exact hg⟩

set_option maxRecDepth 100000 in
theorem push_at (k : Nat) (q : List Cp) (a : Cp) (F : Nat → Prop) (w : World) (h : QAt w F k q) (hn : q.length ≤ 100000) :
    Calls Tryd.prog 117 #[.pointer (some ⟨k, 0, none⟩), .iface 124 a.val] w fun e w' => e = .returned (.tuple #[]) ∧
      (∃ g cap, QRow w' k g (q.length + 1) cap (q ++ [a]) ∧ More F w g) ∧ Only F w w' := by
  obtain ⟨v, hb, hr, hk, hg⟩ := h
  refine (push_core k q.length q a v w hb hr (by omega)).mono ?_
  rintro e w' ⟨rfl, v', hb', hr', hat, ho⟩
  obtain ⟨g, cap, rfl, _, _⟩ := hr'.form (by omega)
  refine ⟨rfl, ⟨g, cap, ⟨hb', hr', by simp⟩, ?_⟩, ho.mono (fun b hb => by rcases hb with rfl | hb; exact hk; exact hg b hb)⟩
  rcases hat with e | ⟨g', e, hlt⟩
  · exact .inl (hg g e.symm)
  · simp only [Value.ownBlock, Option.some.injEq] at e; subst e; exact .inr hlt

set_option maxRecDepth 100000 in
set_option maxHeartbeats 1000000 in
theorem hpush (k : Nat) (q : List Cp) (a : Cp) (F : Nat → Prop) (w : World) (h : QAt w F k q) (hn : q.length ≤ 100000) :
    Calls Tryd.prog 65 #[.iface 119 (.pointer (some ⟨k, 0, none⟩)), .iface 124 a.val] w fun e w' => e = .returned (.tuple #[]) ∧ QAt w' (More F w) k (pushL q a) ∧ Only F w w' := by
  have hkF : F k := by obtain ⟨_, _, _, hk, _⟩ := h; exact hk
  have H := Lib.hid h
  have hm1 := method_push k
  clear h
  go_enter Tryd.func65, Tryd.ntmps65
  go_wp2_with fail
  refine (push_at k q a F w H.out hn).mono ?_
  rintro e w1 ⟨rfl, ⟨g, cap, hq1, hF⟩, ho1⟩
  have hb1 : w1.cell? ⟨k, 0, none⟩ = some (.slice (some ⟨g, 0, none⟩) (q.length + 1) cap) := hq1.box.cell 0
  have hm2 := method_len k (.slice (some ⟨g, 0, none⟩) (q.length + 1) cap)
  have HQ1 := Lib.hid hq1
  have HO1 := Lib.hid ho1
  have HF := Lib.hid hF
  clear hq1 ho1 hF
  go_wp2_with fail
  refine (len_q _ _ _ _).mono ?_
  rintro e w2 ⟨rfl, rfl⟩
  go_wp2_with fail
  refine (up_q k g (q.length + 1) cap _ (q ++ [a]) w1 (by omega) (by omega) (by omega) HQ1.out).mono ?_
  rintro e w3 ⟨rfl, hq3, ho3⟩
  have HQ3 := Lib.hid hq3
  have HO3 := Lib.hid ho3
  clear hq3 ho3
  go_wp2_with fail
  go_end0
  refine ⟨rfl, ?_, ?_⟩
  · have h3 := HQ3.out
    rw [Int.toNat_natCast] at h3
    exact h3.at_ HF.out (.inl hkF)
  · exact HO1.out.trans_more (HO3.out.mono (fun b hb => by subst hb; exact HF.out))

set_option maxRecDepth 100000 in
set_option maxHeartbeats 1000000 in
theorem hpop (k : Nat) (q : List Cp) (F : Nat → Prop) (w : World) (h : QAt w F k q) (hn : q.length ≤ 100000) (h0 : 0 < q.length) :
    Calls Tryd.prog 67 #[.iface 119 (.pointer (some ⟨k, 0, none⟩))] w fun e w' => e = .returned (.iface 124 (gq q 0).val) ∧ QAt w' F k ((popL q).take (q.length - 1)) ∧ Only F w w' := by
  obtain ⟨g, cap, hq, hFg, hFk⟩ := h.row h0
  obtain ⟨n, hql⟩ : ∃ n, q.length = n + 1 := ⟨q.length - 1, by omega⟩
  rw [hql] at hq
  have HL := Lib.hid hql
  have H := Lib.hid hq
  have hb : w.cell? ⟨k, 0, none⟩ = some (.slice (some ⟨g, 0, none⟩) (n + 1) cap) := hq.box.cell 0
  have hm1 := method_len k (.slice (some ⟨g, 0, none⟩) (n + 1) cap)
  have hm2 := method_swap k (.slice (some ⟨g, 0, none⟩) (n + 1) cap)
  have hm3 := method_pop k
  have hn' : n + 1 ≤ 100000 := by omega
  clear h hq hql hn h0
  go_enter Tryd.func67, Tryd.ntmps67
  go_wp2_with fail
  refine (len_q _ _ _ _).mono ?_
  rintro e w2 ⟨rfl, rfl⟩
  go_wp2_with fail
  refine (swap_b k g (n + 1) cap q _ _ w H.out (by omega) (by omega) (by omega) (by omega)).mono ?_
  rintro e w1 ⟨rfl, hq1, ho1⟩
  have hb1 : w1.cell? ⟨k, 0, none⟩ = some (.slice (some ⟨g, 0, none⟩) (n + 1) cap) := hq1.box.cell 0
  have HQ1 := Lib.hid hq1
  have HO1 := Lib.hid ho1
  clear hq1 ho1
  go_wp2_with fail
  refine (down_q k g (n + 1) cap n _ w1 (by omega) (by omega) HQ1.out).mono ?_
  rintro e w3 ⟨⟨b, rfl⟩, hq3, ho3⟩
  have HQ3 := Lib.hid hq3
  have HO3 := Lib.hid ho3
  clear hq3 ho3
  go_wp2_with fail
  refine (pop_q k g n cap _ w3 HQ3.out.box HQ3.out.row HQ3.out.len).mono ?_
  rintro e w4 ⟨rfl, hb4, hr4, ho4⟩
  have HB4 := Lib.hid hb4
  have HR4 := Lib.hid hr4
  have HO4 := Lib.hid ho4
  clear hb4 hr4 ho4
  go_wp2_with fail
  go_ret
  have e1 : popL q = downL (n + 1) (swapQ q 0 n) 0 n := by
    unfold popL
    rw [HL.out]; rfl
  have hr4 := HR4.out
  rw [show (Int.toNat 0) = 0 from rfl, Int.toNat_natCast, ← e1] at hr4
  have hl : (popL q).length = n + 1 := by rw [popL_len]; exact HL.out
  have hg0 : gq (popL q) n = gq q 0 := by
    have := popL_last q (by rw [HL.out]; omega)
    rw [HL.out] at this
    exact this
  have hq3 := HQ3.out
  rw [show (Int.toNat 0) = 0 from rfl, Int.toNat_natCast, ← e1] at hq3
  refine ⟨?_, ⟨_, HB4.out, ?_, hFk, ?_⟩, ?_⟩
  · rw [← hg0, e1]; rfl
  · rw [List.length_take, hl, HL.out]
    have e2 : min (n + 1 - 1) (n + 1) = n := by omega
    rw [e2]
    exact hr4
  · intro g' e
    simp only [Value.ownBlock, Option.some.injEq] at e
    subst e
    exact hFg
  · refine ((HO1.out.trans HO3.out).mono (fun b hb => by subst hb; exact hFg)).trans (HO4.out.mono (fun b hb => by subst hb; exact hFk))

end Go.Proofs.YthmndclmecnpmaaDoor.Nw
