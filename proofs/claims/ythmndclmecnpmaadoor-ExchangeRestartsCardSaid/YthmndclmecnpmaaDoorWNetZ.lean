/- The walk of Receive. -/
import Derived.Test.YthmndclmecnpmaaDoorWNetC
import Derived.Test.YthmndclmecnpmaaDoorWNetY
import Derived.Deep.CutBlock
import Derived.Deep.Cut
import Derived.Deep.CutRange
import Derived.Deep.DeepCutAuto
namespace Go.Proofs.YthmndclmecnpmaaDoor.Nw
open Go.RowKit Go.Maps

/-- What has arrived is taken off a queue: the copies, and what is left. -/
def takeL (now : Nat) : Nat → List Cp → List Cp × List Cp
  | 0, q => ([], q)
  | f + 1, q => if 0 < q.length ∧ (gq q 0).at_ ≤ now then (gq q 0 :: (takeL now f ((popL q).take (q.length - 1))).1, (takeL now f ((popL q).take (q.length - 1))).2) else ([], q)

def pkCells (c : Cp) : List Value := [.string c.fr, .string c.da]
def pksOf (l : List Cp) : List Value := l.flatMap pkCells

set_option maxRecDepth 100000 in
set_option maxHeartbeats 1000000 in
theorem receive_nil (a : ByteArray) (w : World) : Calls Tryd.prog 56 #[.pointer none, .string a] w fun e w' => e = .returned (.slice none 0 0) ∧ w = w' := by
  go_enter Tryd.func56, Tryd.ntmps56
  go_wp2
  go_ret
  exact ⟨rfl, rfl⟩

set_option maxRecDepth 100000 in
set_option maxHeartbeats 1000000 in
theorem receive_none (N : Nat) (a : ByteArray) (F : Nat → Prop) (S : NetS) (w : World) (h : NetAt w F N S) (ha : a.size ≤ maxLen) (hk : a ∉ S.keys) :
    Calls Tryd.prog 56 #[.pointer (some ⟨N, 0, none⟩), .string a] w fun e w' => e = .returned (.slice none 0 0) ∧ w = w' := by
  obtain ⟨sv, mT, mC, nT, nC, DT, DC, box, fq, h⟩ := h
  have k5 : w.cell? ⟨N, 5, none⟩ = some (.map (some mT)) := h.blk.cell 5
  have hlk := look_to h a ha
  rw [if_neg hk] at hlk
  unfold ptrOf at hlk
  clear h ha hk
  go_enter Tryd.func56, Tryd.ntmps56
  go_wp2
  go_ret
  exact ⟨rfl, rfl⟩

section
variable {w w' : World} {F : Nat → Prop} {N : Nat} {S : NetS} {sv : Value} {mT mC nT nC : Nat} {DT DC : DataW Unit} {box : ByteArray → Nat} {fq : ByteArray → Nat → Prop}
set_option maxRecDepth 100000 in
theorem NetParts.keep {G : Nat → Prop} (h : NetParts w F N S sv mT mC nT nC DT DC box fq) (ho : Only G w w') (hd : ∀ b, F b → ¬ G b) : NetParts w' F N S sv mT mC nT nC DT DC box fq :=
  { h with
    blk := ho.blk h.blk (hd _ h.fN)
    scr := ho.row h.scr (fun g e => hd g (h.fS g e))
    mt := ho.map_ h.mt (hd _ h.fT)
    mc := ho.map_ h.mc (hd _ h.fC)
    box := fun s hs => (h.box s hs).keep ho (fun b hb => hd b (h.fq_in s b hb).1)
    fq_in := fun s b hb => ⟨(h.fq_in s b hb).1, Nat.lt_of_lt_of_le (h.fq_in s b hb).2.1 ho.size, (h.fq_in s b hb).2.2⟩ }
set_option maxRecDepth 100000 in
/-- One queue has turned, in its own blocks. -/
theorem NetParts.popped (h : NetParts w F N S sv mT mC nT nC DT DC box fq) {b : ByteArray} (hb : b ∈ S.keys) {q : List Cp} (hq : QAt w' (fq b) (box b) q) (ho : Only (fq b) w w') :
    NetParts w' F N (S.put b q) sv mT mC nT nC DT DC box fq := by
  refine ⟨ho.blk h.blk (fun x => (h.fq_in b N x).2.2.1 rfl), h.fN, h.fT, h.fC, ho.row h.scr (fun g e x => (h.fq_in b g x).2.2.2.2.2 e), h.fS, ho.map_ h.mt (fun x => (h.fq_in b mT x).2.2.2.1 rfl), ho.map_ h.mc (fun x => (h.fq_in b mC x).2.2.2.2.1 rfl),
    h.hT, h.hC, h.tc, h.useLe, h.keys, h.nodup, h.small, h.at_, ?_, ?_, ?_, h.fq_ne, h.cuts⟩
  · intro s hs
    by_cases e : s = b
    · subst e
      simp only [NetS.put, if_true]
      exact hq
    · simp only [NetS.put, if_neg e]
      exact (h.box s hs).keep ho (fun x hx hx' => h.fq_ne s b x e hx hx')
  · intro s hs
    have e : s ≠ b := fun e => hs (e ▸ hb)
    simp only [NetS.put, if_neg e]
    exact h.rest s hs
  · intro s x hx
    have := h.fq_in s x hx
    exact ⟨this.1, Nat.lt_of_lt_of_le this.2.1 ho.size, this.2.2⟩
end

set_option maxRecDepth 100000 in
theorem len_still (A : Option Addr) (n cap : Nat) (w : World) :
    Calls Tryd.prog 66 #[.slice A n cap] w fun e w' => e = .returned (.int .i64 n) ∧ w' = w := (len_q A n cap w).mono fun _ _ ⟨h1, h2⟩ => ⟨h1, h2.symm⟩

set_option maxRecDepth 100000 in
theorem takeL_stop (now f : Nat) (q : List Cp) (h : ¬ (0 < q.length ∧ (gq q 0).at_ ≤ now)) : takeL now f q = ([], q) := by
  cases f with
  | zero => rfl
  | succ f => rw [takeL, if_neg h]
set_option maxRecDepth 100000 in
theorem pksOf_append (a b : List Cp) : pksOf (a ++ b) = pksOf a ++ pksOf b := by simp [pksOf]
set_option maxRecDepth 100000 in
theorem infoPk : (Tryd.prog.info? 113).map (fun i => (i.zero, i.size, i.bytes)) = some (some (.agg #[.string ByteArray.empty, .string ByteArray.empty]), 2, 32) := by kernel_rfl

def boxLen (w : World) (k : Nat) : Nat := match w.cell? ⟨k, 0, none⟩ with | some (.slice _ n _) => n | _ => 0
set_option maxRecDepth 100000 in
theorem boxLen_at {w : World} {F : Nat → Prop} {k : Nat} {q : List Cp} (h : QAt w F k q) : boxLen w k = q.length := by
  obtain ⟨v, hb, hr, _⟩ := h
  obtain ⟨A, cap, rfl⟩ := row_form hr
  have : w.cell? ⟨k, 0, none⟩ = some (.slice A q.length cap) := hb.cell 0
  simp [boxLen, this]

def RecvPost (F : Nat → Prop) (N : Nat) (S : NetS) (a : ByteArray) (w : World) (e : Ending) (w' : World) : Prop :=
  ∃ v, e = .returned v ∧ w'.ownsRow w.heap.size 113 2 v (takeL S.now ((S.qs a).length + 1) (S.qs a)).1.length (pksOf (takeL S.now ((S.qs a).length + 1) (S.qs a)).1) ∧
    NetAt w' F N (S.put a (takeL S.now ((S.qs a).length + 1) (S.qs a)).2) ∧ Only F w w'

set_option maxRecDepth 100000 in
theorem recv_end {w wr : World} {F : Nat → Prop} {N : Nat} {S : NetS} {sv : Value} {mT mC nT nC : Nat} {DT DC : DataW Unit} {box : ByteArray → Nat} {fq : ByteArray → Nat → Prop} {a : ByteArray} {done q : List Cp} {f : Nat} {v : Value}
    (hv : wr.ownsRow w.heap.size 113 2 v done.length (pksOf done)) (hN : NetParts wr F N (S.put a q) sv mT mC nT nC DT DC box fq) (ho : Only F w wr)
    (ht : takeL S.now ((S.qs a).length + 1) (S.qs a) = (done ++ (takeL S.now f q).1, (takeL S.now f q).2)) (hs : ¬ (0 < q.length ∧ (gq q 0).at_ ≤ S.now)) (n : Nat) : RecvPost F N S a w (.returned v) (wr.drewN n) := by
  have e := takeL_stop S.now f q hs
  rw [e] at ht
  simp only [List.append_nil] at ht
  unfold RecvPost
  rw [ht]
  have hd : Only Nobody wr (wr.drewN n) := (Only.refl _ wr).drewN n
  exact ⟨v, rfl, hd.row hv (fun _ _ x => x), NetAt.keep ⟨_, _, _, _, _, _, _, _, _, hN⟩ hd (fun _ _ x => x), ho.drewN n⟩

set_option maxRecDepth 100000 in
set_option maxHeartbeats 2000000 in
theorem receive_at (N : Nat) (a : ByteArray) (F : Nat → Prop) (S : NetS) (w : World) (h : NetAt w F N S) (hF : ∀ b, F b → b < w.heap.size) (ha : a.size ≤ maxLen) (hk : a ∈ S.keys) (hp : S.pend ≤ 5000) :
    Calls Tryd.prog 56 #[.pointer (some ⟨N, 0, none⟩), .string a] w (RecvPost F N S a w) := by
  obtain ⟨sv, mT, mC, nT, nC, DT, DC, box, fq, h⟩ := h
  have k5 : w.cell? ⟨N, 5, none⟩ = some (.map (some mT)) := h.blk.cell 5
  have hlk := look_to h a ha
  rw [if_pos hk] at hlk
  unfold ptrOf at hlk
  have hpn := fun w => ptr_ne (box a) w
  have hql := h.qs_le a
  have H := Lib.hid h
  have HF := Lib.hid hF
  have HK := Lib.hid hk
  clear h ha hk hF
  go_enter Tryd.func56, Tryd.ntmps56
  go_wp2_with fail
  clear hlk k5
  go_loopw [6] (fun s wr => ∃ (done q : List Cp) (f : Nat), wr.ownsRow w.heap.size 113 2 s done.length (pksOf done) ∧ NetParts wr F N (S.put a q) sv mT mC nT nC DT DC box fq ∧ Only F w wr ∧ q.length < f ∧ done.length + q.length ≤ 5000 ∧
    Hid (takeL S.now ((S.qs a).length + 1) (S.qs a) = (done ++ (takeL S.now f q).1, (takeL S.now f q).2))) (fun _ wr => boxLen wr (box a))
  case atStart =>
    refine ⟨[], S.qs a, (S.qs a).length + 1, World.ownsRow_nil _ _ _ _, ?_, Only.refl _ _, by omega, by simp; omega, Lib.hid rfl⟩
    rw [put_self]
    exact H.out
  case round =>
    obtain ⟨done, q, f, hv, hN, ho, hqf, hlen, HT⟩ := hrel
    obtain ⟨A6, cap6, rfl⟩ := row_form hv
    have HV := Lib.hid hv
    have HN := Lib.hid hN
    have HO := Lib.hid ho
    clear hv hN ho
    have hqa := HN.out.box a HK.out
    rw [put_at] at hqa
    have HQA := Lib.hid hqa
    by_cases h0 : 0 < q.length
    · obtain ⟨g, cap, hrow, hfg, hfk⟩ := hqa.row h0
      have hb : wr.cell? ⟨box a, 0, none⟩ = some (.slice (some ⟨g, 0, none⟩) q.length cap) := hrow.box.cell 0
      have hat : wr.cell? ⟨g, 0, none⟩ = some (.int .i64 (gq q 0).at_) := row_cell hrow.row hrow.len h0 (t := 0) (by omega)
      have hnw : wr.cell? ⟨N, 1, none⟩ = some (.int .i64 S.now) := HN.out.blk.cell 1
      have hd0 : decide ((0 : Int) < (q.length : Int)) = true := decide_eq_true (by omega)
      have h0i : (0 : Int) < (q.length : Int) := by omega
      clear hqa hrow
      by_cases hle : (gq q 0).at_ ≤ S.now
      · go_wp2_with fail
        go_quiet ((go_at_call 66; exact Calls.quiet_of_same (len_still _ _ _ _)))
        go_wp2_with fail
        have hqd : QAt (wr.drewN nq) (fq a) (box a) q := HQA.out.keep ((Only.refl Nobody wr).drewN nq) (fun _ _ x => x)
        refine (hpop (box a) q (fq a) (wr.drewN nq) hqd (by omega) h0).mono ?_
        rintro e w1 ⟨rfl, hq1, ho1⟩
        have HQ1 := Lib.hid hq1
        have HO1 := Lib.hid (((Only.refl (fq a) wr).drewN nq).trans ho1)
        clear hq1 ho1 hqd hb hat hnw hd0
        have hta := assert_cp
        unfold Cp.val
        obtain ⟨i0, hi0, hz0, hz1, hz2⟩ := info_parts infoPk
        have hfa : ∀ x, fq a x → x < w.heap.size := fun x hx => HF.out x (H.out.fq_in a x hx).1
        have hv1 : w1.ownsRow w.heap.size 113 2 (.slice A6 done.length cap6) done.length (pksOf done) := HO1.out.row HV.out (fun g hg hx => by
          have h1 := (HV.out.lt g hg).1
          have h2 := hfa g hx
          omega)
        have HV1 := Lib.hid hv1
        have HR1 : Hid (∀ o : Obj, Reads ((w1.alloc o).alloc (.cells #[.string (gq q 0).fr, .string (gq q 0).da] 113)) (w1.heap.size + 1 + 1) 2 (some ⟨w1.heap.size + 1, 0, none⟩) 1 (pkCells (gq q 0))) := by
          intro o
          have := reads_alloc (w1.alloc o) 113 (pkCells (gq q 0)).toArray 2 1 rfl
          simp only [World.size_alloc] at this
          exact this
        have hsz1 : w.heap.size ≤ w1.heap.size := Nat.le_trans HO.out.size HO1.out.size
        have HFA := Lib.hid hfa
        clear hv1 hfa
        go_wp2_with (at_builtin
                     refine wpList_append_any _ rfl (.tmp 52) (.tmp 55) _ rfl w.heap.size 113 i0 _ 2 32 Tryd.underlying110 hi0 hz0 hz1 hz2 rfl (by omega) (.slice A6 done.length cap6) done.length (pksOf done) rfl ((HV1.out.alloc _).alloc _) _ (some ⟨w1.heap.size + 1, 0, none⟩) 1 1 (pkCells (gq q 0)) rfl (HR1.out _) (by intro u hu; simp only [pkCells, List.mem_cons, List.not_mem_nil, or_false] at hu; rcases hu with rfl | rfl <;> rfl) (by unfold maxLen; omega) (by omega) (by simp; omega) ?_
                     intro v2 w2 hown2 hg2 hat2
                     have HO2 := Lib.hid hown2
                     have HG2 := Lib.hid hg2
                     clear hown2 hg2 hat2)
        have hoA : Only Nobody w1 ((w1.alloc (.cells (gq q 0).cells.toArray 124)).alloc (.cells #[.string (gq q 0).fr, .string (gq q 0).da] 113)) := ((Only.refl _ w1).alloc _).alloc _
        have ho2 : Only (fun x => w.heap.size ≤ x) w1 w2 := (hoA.nobody _).trans (Only.of_grown HG2.out (fun g hg => (HV1.out.lt g hg).1))
        have hN2 := (HN.out.popped (show a ∈ (S.put a q).keys from HK.out) HQ1.out HO1.out)
        rw [put_put] at hN2
        have hN3 : NetParts w2 F N (S.put a ((popL q).take (q.length - 1))) sv mT mC nT nC DT DC box fq := hN2.keep ho2 (fun x hx hx' => by have := HF.out x hx; omega)
        have HN3 := Lib.hid hN3
        have HO3 := Lib.hid ho2
        clear hN3 ho2 hoA hN2
        go_roundw
        case rel =>
          have ho2 := HO3.out
          have hN3 := HN3.out
          refine ⟨done ++ [gq q 0], (popL q).take (q.length - 1), f - 1, ?_, hN3, ?_, ?_, ?_, ?_⟩
          · have := HO2.out
            rw [List.length_append, List.length_singleton, pksOf_append]
            have e : pksOf [gq q 0] = pkCells (gq q 0) := by simp [pksOf]
            rw [e]
            exact this
          · refine HO.out.trans_more ?_
            refine (HO1.out.mono (fun x hx => .inl (H.out.fq_in a x hx).1)).trans (ho2.mono (fun x hx => .inr hx))
          · rw [List.length_take, popL_len]; omega
          · rw [List.length_append, List.length_singleton, List.length_take, popL_len]; omega
          · refine Lib.hid (HT.out.trans ?_)
            obtain ⟨f', rfl⟩ : ∃ f', f = f' + 1 := ⟨f - 1, by omega⟩
            rw [takeL, if_pos ⟨h0, hle⟩]
            simp
        case measure =>
          have h1 := HN3.out.box a HK.out
          rw [put_at] at h1
          rw [boxLen_at h1, boxLen_at HQA.out, List.length_take, popL_len]
          omega
      · have hd1 : decide ((gq q 0).at_ ≤ (S.now : Int)) = false := decide_eq_false hle
        have HLE := Lib.hid hle
        clear hle
        go_wp2_with fail
        go_quiet ((go_at_call 66; exact Calls.quiet_of_same (len_still _ _ _ _)))
        go_wp2_with fail
        go_ret
        exact recv_end HV.out HN.out HO.out HT.out (fun x => by have := HLE.out; have := x.2; omega) nq
    · obtain ⟨v, hbx, hrx, _, _⟩ := hqa
      obtain ⟨A, cap, rfl⟩ := row_form hrx
      have hb : wr.cell? ⟨box a, 0, none⟩ = some (.slice A q.length cap) := hbx.cell 0
      have hd0 : decide ((0 : Int) < (q.length : Int)) = false := decide_eq_false (by omega)
      clear hbx hrx
      go_wp2_with fail
      go_quiet ((go_at_call 66; exact Calls.quiet_of_same (len_still _ _ _ _)))
      go_wp2_with fail
      go_ret
      exact recv_end HV.out HN.out HO.out HT.out (fun x => h0 x.1) nq

end Go.Proofs.YthmndclmecnpmaaDoor.Nw
