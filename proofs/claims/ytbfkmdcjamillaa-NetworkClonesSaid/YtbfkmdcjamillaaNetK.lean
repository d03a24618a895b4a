/- The walk of known. -/
import Derived.Test.YtbfkmdcjamillaaNetL
namespace Go.Proofs.Ytbfkmdcjamillaa
open Go.RowKit Go.Maps

def bs (l : List UInt8) : ByteArray := ⟨l.toArray⟩
def kn0 : NetS := newNet [4, 0]
def kn1 : NetS := (netSendAll kn0 ⟨#[97]⟩ ⟨#[98]⟩ ⟨#[49]⟩).2
def kn2 : NetS := (netSendAll kn1 ⟨#[97]⟩ ⟨#[98]⟩ ⟨#[50]⟩).2
def kn3 : NetS := { kn2 with now := 1 }
def kn4 : NetS := netLeft kn3 ⟨#[98]⟩
def kn5 : NetS := { kn4 with now := 2 }
def kn6 : NetS := netLeft kn5 ⟨#[98]⟩
theorem kn0_send : (netSendAll kn0 ⟨#[97]⟩ ⟨#[98]⟩ ⟨#[49]⟩).1 = 0 := by decide +kernel
theorem kn1_send : (netSendAll kn1 ⟨#[97]⟩ ⟨#[98]⟩ ⟨#[50]⟩).1 = 0 := by decide +kernel
theorem kn0_small : Small kn0 := by constructor <;> decide +kernel
theorem kn1_small : Small kn1 := by constructor <;> decide +kernel
theorem kn2_now : kn2.now = 0 := by decide +kernel
theorem kn3_pend : kn3.pend ≤ 4096 := by decide +kernel
theorem kn3_take : netTake kn3 ⟨#[98]⟩ = [⟨1, 1, 0, ⟨#[97]⟩, ⟨#[50]⟩⟩] := by rfl
theorem kn4_now : kn4.now = 1 := by decide +kernel
theorem kn5_pend : kn5.pend ≤ 4096 := by decide +kernel
theorem kn5_take : netTake kn5 ⟨#[98]⟩ = [⟨2, 0, 0, ⟨#[97]⟩, ⟨#[49]⟩⟩] := by rfl
theorem kn6_now : kn6.now = 2 := by decide +kernel
theorem kn6_sent : kn6.sent = 2 := by decide +kernel


theorem new_kn (w0 w : World) (g : Nat) (hb : Below w0.heap.size w0 w) (hg : Blk w g 5 #[.int .u8 4, .int .u8 0]) :
    Calls Try.prog 16 #[.slice (some ⟨g, 0, none⟩) 2 2] w fun e w' => ∃ N F, e = .returned (.pointer (some ⟨N, 0, none⟩)) ∧ Net w0 w' F N kn0 ∧ Only Nobody w w' ∧ ∀ b, F b → w.heap.size ≤ b :=
  new_net w0 w _ 2 2 [4, 0] hb (.inr ⟨_, rfl, rfl, fun _ => ⟨_, rfl, hg.lt, fun j u hu => by
    rw [addr0, hg.cell, ← hu]
    rcases j with _ | _ | j <;> rfl⟩⟩) (by omega)

theorem pk_cells {w : World} {base : Nat} {v : Value} {c : Cp} (h : w.ownsRow base 38 2 v 1 (pksOf [c])) : ∃ g cap, v = .slice (some ⟨g, 0, none⟩) 1 cap ∧ base ≤ g ∧ g < w.heap.size ∧ 1 ≤ cap ∧ w.cell? ⟨g, 0, none⟩ = some (.string c.fr) ∧ w.cell? ⟨g, 1, none⟩ = some (.string c.da) := by
  obtain ⟨g, cap, rfl, hb, hl⟩ := h.form (by omega)
  have hc := h.cells (g := g) rfl
  have c0 := hc 0 _ rfl
  have c1 := hc 1 _ rfl
  rw [addr0] at c0 c1
  refine ⟨g, cap, rfl, hb, hl, ?_, c0, c1⟩
  rcases h.2 with ⟨h1, _⟩ | ⟨g', cap', cur, hv, _, _, hnc, _⟩
  · cases h1
  · simp only [Value.slice.injEq] at hv
    omega

set_option maxRecDepth 100000 in
set_option maxHeartbeats 2000000 in
theorem known_any (w : World) : Calls Try.prog 15 #[] w fun e w' => e = .returned (.bool true) ∧ Below w.heap.size w w' := by
  go_enter Try.func15, Try.ntmps15
  go_wp2_with fail
  refine (new_kn w _ _ ((Below.refl _ w).alloc (Nat.le_refl _) _) (Blk.new w 5 #[.int .u8 4, .int .u8 0])).mono ?_
  rintro e w1 ⟨N, F1, rfl, hn1, _, _⟩
  have HN1 := Lib.hid hn1
  clear hn1
  have hpn := ptr_nil
  go_wp2_with fail
  refine (send_net w w1 F1 N kn0 _ _ _ HN1.out kn0_small (by decide +kernel)).mono ?_
  rw [kn0_send]
  rintro e w2 ⟨rfl, F2, hn2, _, _⟩
  have HN2 := Lib.hid (show Net w w2 F2 N kn1 from hn2)
  clear hn2
  go_wp2_with fail
  refine (send_net w w2 F2 N kn1 _ _ _ HN2.out kn1_small (by decide +kernel)).mono ?_
  rw [kn1_send]
  rintro e w3 ⟨rfl, F3, hn3, _, _⟩
  have HN3 := Lib.hid (show Net w w3 F3 N kn2 from hn3)
  clear hn3
  go_wp2_with fail
  refine (step_net w w3 F3 N kn2 HN3.out (by rw [kn2_now]; omega)).mono ?_
  rintro e w4 ⟨rfl, hn4, _⟩
  rw [kn2_now] at hn4
  have HN4 := Lib.hid (show Net w w4 F3 N kn3 from hn4)
  clear hn4
  go_wp2_with fail
  refine (receive_net w w4 F3 N kn3 _ HN4.out kn3_pend (by decide +kernel)).mono ?_
  rintro e w5 ⟨v, rfl, hv, hn5, _⟩
  rw [kn3_take] at hv
  have hvf := pk_cells hv
  obtain ⟨gx, cx, rfl, hgx, hgx2, hcx, hx0, hx1⟩ := hvf
  have hgx3 : ¬ F3 gx := fun h => by have := HN4.out.bd gx h; omega
  have HN5 := Lib.hid (show Net w w5 F3 N kn4 from hn5)
  have HX0 := Lib.hid hx0
  have HX1 := Lib.hid hx1
  have HGX := Lib.hid hgx3
  clear hn5 hv hx0 hx1 hgx3
  go_wp2_with fail
  refine (step_net w w5 F3 N kn4 HN5.out (by rw [kn4_now]; omega)).mono ?_
  rintro e w6 ⟨rfl, hn6, ho6⟩
  rw [kn4_now] at hn6
  have HN6 := Lib.hid (show Net w w6 F3 N kn5 from hn6)
  have HO6 := Lib.hid ho6
  clear hn6 ho6
  go_wp2_with fail
  refine (receive_net w w6 F3 N kn5 _ HN6.out kn5_pend (by decide +kernel)).mono ?_
  rintro e w7 ⟨v, rfl, hv, hn7, ho7⟩
  rw [kn5_take] at hv
  have hvf := pk_cells hv
  obtain ⟨gy, cy, rfl, hgy, hgy2, hcy, hy0, hy1⟩ := hvf
  have HN7 := Lib.hid (show Net w w7 F3 N kn6 from hn7)
  have ho57 := HO6.out.trans ho7
  have hx0 : w7.cell? ⟨gx, 0, none⟩ = some (.string ⟨#[97]⟩) := (ho57.cell (p := ⟨gx, 0, none⟩) hgx2 HGX.out).trans HX0.out
  have hx1 : w7.cell? ⟨gx, 1, none⟩ = some (.string ⟨#[50]⟩) := (ho57.cell (p := ⟨gx, 1, none⟩) hgx2 HGX.out).trans HX1.out
  clear hn7 hv ho7 ho57 hgx hgy hgx2
  go_wp2_with fail
  refine (now_at N F3 kn6 w7 HN7.out.at_).mono ?_
  rw [kn6_now]
  rintro e w8 ⟨rfl, rfl⟩
  go_wp2_with fail
  refine (sent_at N F3 kn6 w7 HN7.out.at_).mono ?_
  rw [kn6_sent]
  rintro e w9 ⟨rfl, rfl⟩
  go_wp2_with fail
  go_ret
  exact ⟨rfl, HN7.out.bel⟩

end Go.Proofs.Ytbfkmdcjamillaa
