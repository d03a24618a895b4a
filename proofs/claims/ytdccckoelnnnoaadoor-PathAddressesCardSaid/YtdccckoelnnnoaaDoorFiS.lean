/- Path: small. -/
import Derived.Test.YtdccckoelnnnoaaDoorVaS
namespace Go.Proofs.YtdccckoelnnnoaaDoor
open Go.RowKit
attribute [local go_sem ↓] Go.wp_at_zero Go.wp_at_succ

def ABool (w : World) (e : Ending) (w' : World) : Prop := ∃ b : Bool, e = .returned (.bool b) ∧ Only Nobody w w'
set_option maxRecDepth 100000 in
set_option maxHeartbeats 4000000 in
theorem small_any (v : VC) (T : VT) (S : Nat → Prop) (n : Nat) (w : World) (hsz : T.size ≤ 140737488351232) (h : VAt w S n v T) : Calls Tryd.prog 10 #[.agg #[.int .i64 v.k, .int .i64 v.i, .int .i64 v.s, .string v.t, .slice v.la v.ln v.lc, .slice v.fa v.fn v.fc]] w (ABool w) := by
  have HV := Lib.hid h
  clear h
  go_enter Tryd.func10, Tryd.ntmps10
  go_wp2_with fail
  have HOA : Hid (Only Nobody w (w.alloc (.cells #[.int .i64 v.k, .int .i64 v.i, .int .i64 v.s, .string v.t, .slice v.la v.ln v.lc, .slice v.fa v.fn v.fc] 25))) := Lib.hid ((Only.refl _ _).alloc _)
  refine (depth_any n v T S _ (by omega) (HV.out.same HOA.out)).mono ?_
  rintro e w1 ⟨z, rfl, ho⟩
  have HB1 : Hid (Blk w1 w.heap.size 25 #[.int .i64 v.k, .int .i64 v.i, .int .i64 v.s, .string v.t, .slice v.la v.ln v.lc, .slice v.fa v.fn v.fc]) := Lib.hid (ho.blk (Blk.new w 25 #[.int .i64 v.k, .int .i64 v.i, .int .i64 v.s, .string v.t, .slice v.la v.ln v.lc, .slice v.fa v.fn v.fc]) (fun x => x))
  have HO1 := Lib.hid (HOA.out.trans ho)
  clear ho HOA
  by_cases hd : z ≤ 12
  · have b0 : w1.cell? ⟨w.heap.size, 0, none⟩ = some (.int .i64 v.k) := HB1.out.cell 0
    have b1 : w1.cell? ⟨w.heap.size, 1, none⟩ = some (.int .i64 v.i) := HB1.out.cell 1
    have b2 : w1.cell? ⟨w.heap.size, 2, none⟩ = some (.int .i64 v.s) := HB1.out.cell 2
    have b3 : w1.cell? ⟨w.heap.size, 3, none⟩ = some (.string v.t) := HB1.out.cell 3
    have b4 : w1.cell? ⟨w.heap.size, 4, none⟩ = some (.slice v.la v.ln v.lc) := HB1.out.cell 4
    have b5 : w1.cell? ⟨w.heap.size, 5, none⟩ = some (.slice v.fa v.fn v.fc) := HB1.out.cell 5
    go_wp2_with fail
    refine (size_any n v T S _ (by omega) (HV.out.same HO1.out)).mono ?_
    rintro e w2 ⟨z2, rfl, ho⟩
    have HO2 := Lib.hid (HO1.out.trans ho)
    clear ho b0 b1 b2 b3 b4 b5
    go_wp2_with fail
    go_ret
    exact ⟨_, rfl, HO2.out⟩
  · go_wp2_with fail
    go_ret
    exact ⟨_, rfl, HO1.out⟩
end Go.Proofs.YtdccckoelnnnoaaDoor
