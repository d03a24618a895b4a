/- The walks of the network's small methods: Now, Sent, Lost, Step, Pending. -/
import Derived.Test.YthmndclmecnpmaaDoorWNetT
namespace Go.Proofs.YthmndclmecnpmaaDoor.Nw
open Go.RowKit Go.Maps

set_option maxRecDepth 100000 in
theorem NetParts.turn {w w' : World} {F : Nat → Prop} {N : Nat} {S S' : NetS} {sv : Value} {mT mC nT nC : Nat} {DT DC : DataW Unit} {box : ByteArray → Nat} {fq : ByteArray → Nat → Prop}
    (h : NetParts w F N S sv mT mC nT nC DT DC box fq) (ho : Only (· = N) w w') (e1 : S'.script = S.script) (e2 : S'.keys = S.keys) (e3 : S'.qs = S.qs) (e4 : S'.cut = S.cut) (e5 : S'.ncut = S.ncut) (e7 : S'.use ≤ S'.script.length)
    (hb : Blk w' N 108 #[sv, .int .i64 S'.now, .int .i64 S'.sent, .int .i64 S'.lost, .int .i64 S'.use, .map (some mT), .map (some mC)]) : NetParts w' F N S' sv mT mC nT nC DT DC box fq := by
  have hlt := h.blk.lt
  refine ⟨hb, h.fN, h.fT, h.fC, ?_, h.fS, ?_, ?_, by rw [e2]; exact h.hT, by rw [e5]; exact h.hC, h.tc, e7, by rw [e2]; exact h.keys, by rw [e2]; exact h.nodup, by rw [e2]; exact h.small, by rw [e2]; exact h.at_, ?_, by rw [e2, e3]; exact h.rest, ?_, h.fq_ne, by rw [e4]; exact h.cuts⟩
  · rw [e1]
    refine ho.row h.scr ?_
    rintro g hg rfl
    rcases h.scr.2 with ⟨h1, _⟩ | ⟨g', cap', cur, hv, hb', hh, _⟩
    · rw [h1] at hg; cases hg
    · rw [hv] at hg
      simp only [Value.ownBlock, Option.some.injEq] at hg
      subst hg
      exact Blk.ne_ (t := 5) hh h.blk (by decide) rfl
  · refine ho.map_ h.mt ?_
    rintro rfl
    obtain ⟨es, clock, hm, _⟩ := h.mt
    have := h.blk
    unfold Blk at this
    rw [hm] at this
    cases this
  · refine ho.map_ h.mc ?_
    rintro rfl
    obtain ⟨es, clock, hm, _⟩ := h.mc
    have := h.blk
    unfold Blk at this
    rw [hm] at this
    cases this
  · rw [e2, e3]
    exact fun s hs => (h.box s hs).keep ho (fun b hb => (h.fq_in s b hb).2.2.1)
  · exact fun s b hb => ⟨(h.fq_in s b hb).1, Nat.lt_of_lt_of_le (h.fq_in s b hb).2.1 ho.size, (h.fq_in s b hb).2.2⟩

set_option maxRecDepth 100000 in
set_option maxHeartbeats 400000 in
theorem now_nil (w : World) : Calls Tryd.prog 53 #[.pointer none] w fun e w' => e = .returned (.int .i64 0) ∧ w = w' := by
  go_enter Tryd.func53, Tryd.ntmps53
  go_wp2
  go_ret
  exact ⟨rfl, rfl⟩
set_option maxRecDepth 100000 in
set_option maxHeartbeats 400000 in
theorem pending_nil (w : World) : Calls Tryd.prog 64 #[.pointer none] w fun e w' => e = .returned (.int .i64 0) ∧ w = w' := by
  go_enter Tryd.func64, Tryd.ntmps64
  go_wp2
  go_ret
  exact ⟨rfl, rfl⟩
set_option maxRecDepth 100000 in
set_option maxHeartbeats 400000 in
theorem step_nil (w : World) : Calls Tryd.prog 55 #[.pointer none] w fun e w' => e = .returned (.tuple #[]) ∧ w = w' := by
  go_enter Tryd.func55, Tryd.ntmps55
  go_wp2
  go_end0
  exact ⟨rfl, rfl⟩

set_option maxRecDepth 100000 in
theorem ptr_nil (w : World) (N : Nat) : (binOp .eql 70 (.pointer (some ⟨N, 0, none⟩)) (.pointer none)).run Tryd.prog w = .ok (.bool false) w := by kernel_rfl

set_option maxRecDepth 100000 in
set_option maxHeartbeats 400000 in
theorem now_at (N : Nat) (F : Nat → Prop) (S : NetS) (w : World) (h : NetAt w F N S) : Calls Tryd.prog 53 #[.pointer (some ⟨N, 0, none⟩)] w fun e w' => e = .returned (.int .i64 S.now) ∧ w = w' := by
  obtain ⟨sv, mT, mC, nT, nC, DT, DC, box, fq, h⟩ := h
  have c1 : w.cell? ⟨N, 1, none⟩ = some (.int .i64 S.now) := h.blk.cell 1
  clear h
  go_enter Tryd.func53, Tryd.ntmps53
  go_wp2
  go_ret
  exact ⟨rfl, rfl⟩
set_option maxRecDepth 100000 in
set_option maxHeartbeats 400000 in
theorem step_at (N : Nat) (F : Nat → Prop) (S : NetS) (w : World) (h : NetAt w F N S) (_hb : S.now ≤ 1000000000) :
    Calls Tryd.prog 55 #[.pointer (some ⟨N, 0, none⟩)] w fun e w' => e = .returned (.tuple #[]) ∧ NetAt w' F N { S with now := S.now + 1 } ∧ Only F w w' := by
  obtain ⟨sv, mT, mC, nT, nC, DT, DC, box, fq, h⟩ := h
  have c1 : w.cell? ⟨N, 1, none⟩ = some (.int .i64 S.now) := h.blk.cell 1
  have f1 : w.frozen? ⟨N, 1, none⟩ = false := h.blk.frozen 1
  have H := Lib.hid h
  clear h
  go_enter Tryd.func55, Tryd.ntmps55
  go_wp2
  go_end0
  have ho : Only (· = N) w (w.setCell ⟨N, 1, none⟩ (.int .i64 ((S.now : Int) + 1))) := (Only.refl (· = N) w).setCell (p := ⟨N, 1, none⟩) (.inl rfl) _
  refine ⟨rfl, ⟨sv, mT, mC, nT, nC, DT, DC, box, fq, H.out.turn ho rfl rfl rfl rfl rfl H.out.useLe ?_⟩, ho.mono (fun b hb => by subst hb; exact H.out.fN)⟩
  exact H.out.blk.set_ 1 _

end Go.Proofs.YthmndclmecnpmaaDoor.Nw
