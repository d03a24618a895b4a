/- The walk of Pending. -/
import Derived.Test.YthmndclmecnpmaaDoorWNetU
namespace Go.Proofs.YthmndclmecnpmaaDoor.Nw
open Go.RowKit Go.Maps

def ptrOf (o : Option Nat) : Value := .pointer (o.map fun k => ⟨k, 0, none⟩)
set_option maxRecDepth 100000 in
theorem ptrElem_of {v : Value} {y : DataW Unit × List MemPlace} (h : ptrElem v = some y) : ∃ o, v = ptrOf o := by
  unfold ptrElem at h
  split at h
  · exact ⟨none, rfl⟩
  · exact ⟨some _, rfl⟩
  · cases h

/-- How many copies are in the queues that are still to come. -/
def remOf (S : NetS) (left : Lit → Bool) : Nat := ((S.keys.filter fun s => left (kl s)).map fun s => (S.qs s).length).sum

set_option maxRecDepth 100000 in
theorem sum_strike {α : Type} [DecidableEq α] (f : α → Nat) (p : α → Bool) (x : α) : ∀ (l : List α), l.Nodup → x ∈ l → p x = true →
    ((l.filter p).map f).sum = f x + ((l.filter fun s => p s && decide (s ≠ x)).map f).sum
  | [], _, hx, _ => absurd hx (by simp)
  | y :: r, hn, hx, hp => by
    obtain ⟨hy, hr⟩ := List.nodup_cons.1 hn
    by_cases e : y = x
    · subst e
      have h2 : (r.filter fun s => p s && !decide (s = y)) = r.filter p := List.filter_congr (fun s hs => by
        have : s ≠ y := fun e => hy (e ▸ hs)
        simp [this])
      simp [hp, h2]
    · have hx' : x ∈ r := by simpa [Ne.symm e] using hx
      have ih := sum_strike f p x r hr hx' hp
      cases hpy : p y <;> simp [hpy, e, ih] <;> omega

set_option maxRecDepth 100000 in
theorem remOf_strike (S : NetS) (hn : S.keys.Nodup) (left : Lit → Bool) (x : ByteArray) (hx : x ∈ S.keys) (hl : left (kl x) = true) :
    remOf S left = (S.qs x).length + remOf S (fun z => left z && !z.sameKey (kl x)) := by
  unfold remOf
  rw [sum_strike (fun s => (S.qs s).length) (fun s => left (kl s)) x S.keys hn hx hl]
  congr 3
  apply List.filter_congr
  intro s _
  by_cases e : s = x
  · subst e
    simp [WideAt.sameKey_self (show WideAt.IsKeyLit (kl s) from trivial)]
  · simp only []
    rw [Maps.sameKey_ne (fun h => e (kl_inj h))]
    simp [e]

set_option maxRecDepth 100000 in
set_option maxHeartbeats 1000000 in
theorem pending_at (N : Nat) (F : Nat → Prop) (S : NetS) (w : World) (h : NetAt w F N S) (_hb : S.pend ≤ 1000000000) :
    Calls Tryd.prog 64 #[.pointer (some ⟨N, 0, none⟩)] w fun e w' => e = .returned (.int .i64 S.pend) ∧ NetAt w' F N S ∧ Only Nobody w w' := by
  have HN := Lib.hid h
  obtain ⟨sv, mT, mC, nT, nC, DT, DC, box, fq, h⟩ := h
  have c5 : w.cell? ⟨N, 5, none⟩ = some (.map (some mT)) := h.blk.cell 5
  have hown := Lib.hid h.mt
  have hmlt := h.mt.lt
  have H := Lib.hid h
  clear h
  go_enter Tryd.func64, Tryd.ntmps64
  go_wp2_with (at_range; refine wpList_range_own _ rfl _ 105 rfl 9 119 keyS Tryd.underlying105 ptrElem mT nT DT rfl hown.out ?_; intro w0 hrg0 hg0 hs0)
  go_frame
  have ho0 : Only Nobody w w0 := ⟨hg0.os, hg0.tape, hg0.output, hg0.size, fun k hk _ => hg0.block k hk (by simp)⟩
  have HO0 := Lib.hid ho0
  have HR0 := Lib.hid hrg0
  clear ho0 hrg0 hg0
  go_loopw [3] (fun s wr => ∃ (left : Lit → Bool) (cnt k : Nat), s = .int .i64 (k : Int) ∧ wr.ranges Tryd.prog 9 ptrElem mT w.heap.size nT DT left cnt ∧ Only Nobody w wr ∧ Hid (k + remOf S left = S.pend) ∧ Hid (∀ s, left (kl s) = true → s ∈ S.keys)) (fun _ wr => wr.rangeLeft mT w.heap.size)
  case atStart =>
    refine ⟨_, _, 0, rfl, HR0.out, HO0.out, ?_, fun s hs => (H.out.keys s).1 hs⟩
    refine Lib.hid ?_
    unfold remOf NetS.pend
    rw [List.filter_eq_self.2 (fun s hs => (H.out.keys s).2 hs)]
    omega
  case round =>
    obtain ⟨left, cnt, k, rfl, hrg, ho, HK, HL⟩ := hrel
    have HR := Lib.hid hrg
    have HO := Lib.hid ho
    have hk0 : k ≤ 1000000000 := by have := HK.out; omega
    clear hrg ho
    go_wp2_with (at_next; refine wpList_next_ranges _ rfl _ rfl 9 keyS ptrElem Value.string ptrOf (fun key l hk => by obtain ⟨s, rfl, _, _⟩ := kl_inv hk; exact ⟨s, rfl⟩) (fun v y hv => ptrElem_of hv) mT w.heap.size nT DT left cnt rfl HR.out ?_ ?_)
    · intro h0 hl0
      have HL0 := Lib.hid hl0
      clear hl0 h0
      go_wp2
      go_ret
      refine ⟨ret_int ?_, HN.out.keep HO.out (fun b _ x => x), HO.out⟩
      have := HK.out
      have e : remOf S left = 0 := by
        unfold remOf
        rw [List.filter_eq_nil_iff.2 (fun s _ => by rw [HL0.out]; simp)]
        rfl
      omega
    · intro x c l y ps w1 cnt1 hkey hlk hyv hat hrg1 hlt hg1 hs1 hen
      obtain ⟨x', hx', rfl, _⟩ := kl_inv hkey
      obtain rfl : x = x' := by injection hx'
      have hxk : x ∈ S.keys := HL.out x hlk
      have hbx := H.out.at_ x hxk
      rw [hat] at hbx
      have hcx : ptrOf c = .pointer (some ⟨box x, 0, none⟩) := by
        rw [hbx] at hyv
        rcases ptrElem_inv hyv with ⟨_, h2⟩ | ⟨k', h1, h2⟩
        · omega
        · rw [h1]; congr 3; omega
      rw [hcx] at hen ⊢
      have ho1 : Only Nobody w w1 := HO.out.trans_more (Only.of_grown hg1 (fun k hk => by injection hk with hk; subst hk; exact .inr (Nat.le_refl _)))
      obtain ⟨v, hb, hr, _, _⟩ := (H.out.box x hxk).keep ho1 (fun b _ e => e)
      have hv : ∃ A cap, v = .slice A (S.qs x).length cap := by
        rcases hr.2 with ⟨rfl, h0⟩ | ⟨g, cap, cur, rfl, _⟩
        · exact ⟨none, 0, by rw [h0]⟩
        · exact ⟨_, _, rfl⟩
      obtain ⟨A, cap, rfl⟩ := hv
      have hbc : w1.cell? ⟨box x, 0, none⟩ = some (.slice A (S.qs x).length cap) := hb.cell 0
      have hsum := remOf_strike S H.out.nodup left x hxk hlk
      have HS : Hid (k + (S.qs x).length + remOf S (fun z => left z && !z.sameKey (kl x)) = S.pend) := by
        have := HK.out
        exact Lib.hid (by omega)
      have hk1 : k + (S.qs x).length ≤ 1000000000 := by have := HK.out; omega
      have HR1 := Lib.hid hrg1
      have HO1 := Lib.hid ho1
      have HLT : Hid (cnt1 < cnt) := Lib.hid hlt
      clear hkey hlk hyv hat hrg1 hlt hg1 hs1 hbx hcx hx' hr hb hsum ho1 hxk
      go_wp2_with fail
      refine (len_q _ _ _ _).mono ?_
      rintro e w2 ⟨rfl, rfl⟩
      go_wp2_with fail
      go_roundw
      case rel =>
        refine ⟨_, cnt1, k + (S.qs x).length, by go_num, HR1.out, HO1.out, HS, Lib.hid ?_⟩
        intro s hs
        simp only [Bool.and_eq_true] at hs
        exact HL.out s hs.1
      case measure =>
        rw [HR1.out.left_eq, HR.out.left_eq]
        exact HLT.out

end Go.Proofs.YthmndclmecnpmaaDoor.Nw
