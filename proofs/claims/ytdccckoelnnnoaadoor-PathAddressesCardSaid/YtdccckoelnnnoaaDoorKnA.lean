/- Path: the example of the chapter; known. -/
import Derived.Test.YtdccckoelnnnoaaDoorFiG
import Derived.Test.YtdccckoelnnnoaaDoorPaV
namespace Go.Proofs.YtdccckoelnnnoaaDoor
open Go.RowKit
attribute [local go_sem ↓] Go.wp_at_zero Go.wp_at_succ

def intT (i : Int) : VT := .mk 2 i 0 ⟨#[]⟩ [] []
def recT (f : List (ByteArray × VT)) : VT := .mk 9 0 0 ⟨#[]⟩ [] f
def exT : VT := recT [(⟨#[97]⟩, .mk 8 0 0 ⟨#[]⟩ [recT [(⟨#[98]⟩, intT 1)], recT [(⟨#[98]⟩, intT 2)], recT []] []), (⟨#[99]⟩, .mk 10 0 0 ⟨#[99, 97, 114, 100]⟩ [intT 7] [])]
theorem row_of {α : Type} {gg : α → List Value} {k : Nat} (hg : ∀ a, (gg a).length = k) {w : World} {S : Nat → Prop} {g : Nat} {t : TypeId} {cs : Array Value} {L : List α} (hb : Blk w g t cs) (hc : cs.toList = cells gg L) (hS : S g) (n : Nat) (hn : L.length = n) : RowA gg k w S (some ⟨g, 0, none⟩) n L := by
  subst hn
  refine ⟨⟨by rw [cells_length hg], fun _ => ⟨_, rfl, hb.lt, fun j u hu => ?_⟩⟩, rfl, fun _ ad e => ?_⟩
  · have hadd : (⟨g, 0, none⟩ : Addr).add j = ⟨g, j, none⟩ := by unfold Addr.add; split <;> simp_all
    rw [hadd, hb.cell, ← hu, ← hc]
    simp
  · injection e with e
    rw [← e]; exact hS
def intC (i : Int) : VC := ⟨2, i, 0, ⟨#[]⟩, none, 0, 0, none, 0, 0⟩
theorem int_at (w : World) (S : Nat → Prop) (n : Nat) (i : Int) : VAt w S (n + 1) (intC i) (intT i) := ⟨⟨rfl, rfl, rfl, rfl, Nat.le_refl _, Nat.le_refl _⟩, ⟨[], RowA.nil_, All2.nil_⟩, ⟨[], RowA.nil_, All2.nil_⟩⟩
theorem All2.cons {α β : Type} {R : α → β → Prop} {a : α} {b : β} {A : List α} {B : List β} (h : R a b) (h2 : All2 R A B) : All2 R (a :: A) (b :: B) := (All2.one h).app h2
theorem ex_at (w : World) (S : Nat → Prop) (g3 g4 g5 g6 g8 : Nat) (h3 : S g3) (h4 : S g4) (h5 : S g5) (h6 : S g6) (h8 : S g8)
    (b3 : Blk w g3 72 #[.string ⟨#[98]⟩, .int .i64 2, .int .i64 1, .int .i64 0, .string ⟨#[]⟩, .slice none 0 0, .slice none 0 0])
    (b4 : Blk w g4 72 #[.string ⟨#[98]⟩, .int .i64 2, .int .i64 2, .int .i64 0, .string ⟨#[]⟩, .slice none 0 0, .slice none 0 0])
    (b5 : Blk w g5 25 #[.int .i64 9, .int .i64 0, .int .i64 0, .string ⟨#[]⟩, .slice none 0 0, .slice (some ⟨g3, 0, none⟩) 1 1, .int .i64 9, .int .i64 0, .int .i64 0, .string ⟨#[]⟩, .slice none 0 0, .slice (some ⟨g4, 0, none⟩) 1 1, .int .i64 9, .int .i64 0, .int .i64 0, .string ⟨#[]⟩, .slice none 0 0, .slice none 0 0])
    (b6 : Blk w g6 25 #[.int .i64 2, .int .i64 7, .int .i64 0, .string ⟨#[]⟩, .slice none 0 0, .slice none 0 0])
    (b8 : Blk w g8 72 #[.string ⟨#[97]⟩, .int .i64 8, .int .i64 0, .int .i64 0, .string ⟨#[]⟩, .slice (some ⟨g5, 0, none⟩) 3 3, .slice none 0 0, .string ⟨#[99]⟩, .int .i64 10, .int .i64 0, .int .i64 0, .string ⟨#[99, 97, 114, 100]⟩, .slice (some ⟨g6, 0, none⟩) 1 1, .slice none 0 0]) :
    VAt w S 4 ⟨9, 0, 0, ⟨#[]⟩, none, 0, 0, some ⟨g8, 0, none⟩, 2, 2⟩ exT := by
  have r3 : VAt w S 2 ⟨9, 0, 0, ⟨#[]⟩, none, 0, 0, some ⟨g3, 0, none⟩, 1, 1⟩ (recT [(⟨#[98]⟩, intT 1)]) := ⟨⟨rfl, rfl, rfl, rfl, Nat.le_refl _, Nat.le_refl _⟩, ⟨[], RowA.nil_, All2.nil_⟩, ⟨[⟨⟨#[98]⟩, intC 1⟩], row_of flen b3 rfl h3 1 rfl, All2.one ⟨rfl, int_at _ _ _ _⟩⟩⟩
  have r4 : VAt w S 2 ⟨9, 0, 0, ⟨#[]⟩, none, 0, 0, some ⟨g4, 0, none⟩, 1, 1⟩ (recT [(⟨#[98]⟩, intT 2)]) := ⟨⟨rfl, rfl, rfl, rfl, Nat.le_refl _, Nat.le_refl _⟩, ⟨[], RowA.nil_, All2.nil_⟩, ⟨[⟨⟨#[98]⟩, intC 2⟩], row_of flen b4 rfl h4 1 rfl, All2.one ⟨rfl, int_at _ _ _ _⟩⟩⟩
  have r0 : VAt w S 2 ⟨9, 0, 0, ⟨#[]⟩, none, 0, 0, none, 0, 0⟩ (recT []) := ⟨⟨rfl, rfl, rfl, rfl, Nat.le_refl _, Nat.le_refl _⟩, ⟨[], RowA.nil_, All2.nil_⟩, ⟨[], RowA.nil_, All2.nil_⟩⟩
  have rl : VAt w S 3 ⟨8, 0, 0, ⟨#[]⟩, some ⟨g5, 0, none⟩, 3, 3, none, 0, 0⟩ (.mk 8 0 0 ⟨#[]⟩ [recT [(⟨#[98]⟩, intT 1)], recT [(⟨#[98]⟩, intT 2)], recT []] []) :=
    ⟨⟨rfl, rfl, rfl, rfl, Nat.le_refl _, Nat.le_refl _⟩, ⟨[⟨9, 0, 0, ⟨#[]⟩, none, 0, 0, some ⟨g3, 0, none⟩, 1, 1⟩, ⟨9, 0, 0, ⟨#[]⟩, none, 0, 0, some ⟨g4, 0, none⟩, 1, 1⟩, ⟨9, 0, 0, ⟨#[]⟩, none, 0, 0, none, 0, 0⟩], row_of vlen b5 rfl h5 3 rfl, All2.cons r3 (All2.cons r4 (All2.one r0))⟩, ⟨[], RowA.nil_, All2.nil_⟩⟩
  have rc : VAt w S 3 ⟨10, 0, 0, ⟨#[99, 97, 114, 100]⟩, some ⟨g6, 0, none⟩, 1, 1, none, 0, 0⟩ (.mk 10 0 0 ⟨#[99, 97, 114, 100]⟩ [intT 7] []) :=
    ⟨⟨rfl, rfl, rfl, rfl, Nat.le_refl _, Nat.le_refl _⟩, ⟨[intC 7], row_of vlen b6 rfl h6 1 rfl, All2.one (int_at _ _ _ _)⟩, ⟨[], RowA.nil_, All2.nil_⟩⟩
  exact ⟨⟨rfl, rfl, rfl, rfl, Nat.le_refl _, Nat.le_refl _⟩, ⟨[], RowA.nil_, All2.nil_⟩, ⟨[⟨⟨#[97]⟩, ⟨8, 0, 0, ⟨#[]⟩, some ⟨g5, 0, none⟩, 3, 3, none, 0, 0⟩⟩, ⟨⟨#[99]⟩, ⟨10, 0, 0, ⟨#[99, 97, 114, 100]⟩, some ⟨g6, 0, none⟩, 1, 1, none, 0, 0⟩⟩], row_of flen b8 rfl h8 2 rfl, All2.cons ⟨rfl, rl⟩ (All2.one ⟨rfl, rc⟩)⟩⟩
theorem Blk.new_at (w : World) (t : TypeId) (cs : Array Value) (g : Nat) (h : w.heap.size = g) : Blk (w.alloc (.cells cs t)) g t cs := by subst h; exact Blk.new w t cs
def ExPost (w : World) (e : Ending) (w' : World) : Prop := ∃ v : VC, e = .returned (.agg #[.int .i64 v.k, .int .i64 v.i, .int .i64 v.s, .string v.t, .slice v.la v.ln v.lc, .slice v.fa v.fn v.fc]) ∧ VAt w' (fun b => w.heap.size ≤ b) 4 v exT ∧ Only Nobody w w'
set_option maxRecDepth 100000 in
set_option maxHeartbeats 8000000 in
theorem example_any (w : World) : Calls Tryd.prog 26 #[] w (ExPost w) := by
  go_enter Tryd.func26, Tryd.ntmps26
  go_wp2_with fail
  refine bodyPost_ret (v := .agg #[.int .i64 9, .int .i64 0, .int .i64 0, .string ⟨#[]⟩, .slice none 0 0, .slice (some ⟨w.heap.size + 1 + 1 + 1 + 1 + 1 + 1 + 1 + 1, 0, none⟩) 2 2]) (by simp [results, Tryd.results26, go_sem]) rfl ⟨⟨9, 0, 0, ⟨#[]⟩, none, 0, 0, some ⟨w.heap.size + 1 + 1 + 1 + 1 + 1 + 1 + 1 + 1, 0, none⟩, 2, 2⟩, rfl, ?_, ?_⟩
  · refine ex_at _ _ (w.heap.size + 1 + 1 + 1) (w.heap.size + 1 + 1 + 1 + 1) (w.heap.size + 1 + 1 + 1 + 1 + 1) (w.heap.size + 1 + 1 + 1 + 1 + 1 + 1) (w.heap.size + 1 + 1 + 1 + 1 + 1 + 1 + 1 + 1) (by omega) (by omega) (by omega) (by omega) (by omega) ?_ ?_ ?_ ?_ ?_
    all_goals (repeat (first | (refine Blk.new_at _ _ _ _ ?_; (simp; done)) | refine Blk.alloc ?_ _))
  · repeat (first | exact Only.refl _ _ | refine Only.alloc ?_ _)

/-! known. -/
def ka : List Pt := [⟨1, 0, ⟨#[97]⟩⟩, ⟨3, 0, ⟨#[]⟩⟩, ⟨1, 0, ⟨#[98]⟩⟩]
def kc : List Pt := [⟨1, 0, ⟨#[99]⟩⟩, ⟨4, 0, ⟨#[99, 97, 114, 100]⟩⟩]
theorem par_ka : parL (ByteArray.data ⟨#[97, 91, 42, 93, 46, 98]⟩).toList = ka ∧ parE (ByteArray.data ⟨#[97, 91, 42, 93, 46, 98]⟩).toList = 0 := ⟨by kernel_rfl, by kernel_rfl⟩
theorem par_kc : parL (ByteArray.data ⟨#[99, 63, 99, 97, 114, 100]⟩).toList = kc ∧ parE (ByteArray.data ⟨#[99, 63, 99, 97, 114, 100]⟩).toList = 0 := ⟨by kernel_rfl, by kernel_rfl⟩
theorem get_ka : findE exT ka = 0 ∧ getV exT ka = .mk 8 0 0 ⟨#[]⟩ [intT 1, intT 2] [] := ⟨by kernel_rfl, by kernel_rfl⟩
theorem get_kc : findE exT kc = 0 ∧ getV exT kc = intT 7 := ⟨by kernel_rfl, by kernel_rfl⟩
theorem ex_size : exT.size ≤ 140737488351232 := by decide +kernel
theorem ex_fit : Fit exT ka := fit_full ex_size (fun k p hp => by
  rcases k with _ | _ | _ | k
  · injection hp with hp; subst hp; decide +kernel
  · injection hp with hp; subst hp; decide +kernel
  · injection hp with hp; subst hp; decide +kernel
  · simp [ka] at hp)
theorem ex_fit2 : Fit exT kc := fit_one (by decide +kernel) ex_size
theorem known_list {w : World} {S : Nat → Prop} {n : Nat} {v : VC} (h : VAt w S n v (.mk 8 0 0 ⟨#[]⟩ [intT 1, intT 2] [])) : v.k = 8 ∧ v.ln = 2 ∧ ∃ ad, v.la = some ad ∧ ∀ w', Only Nobody w w' → w'.cell? ⟨(ad.add 6).block, (ad.add 6).off + 1, none⟩ = some (.int .i64 2) := by
  cases n with
  | zero => exact h.elim
  | succ n =>
    obtain ⟨⟨hk, _⟩, ⟨V, hV, hA⟩, _⟩ := h
    have hl : v.ln = 2 := by rw [← hV.len, hA.1]; rfl
    obtain ⟨o, ho, hax⟩ := hA.get' (j := 1) (b := intT 2) rfl
    have hi : o.i = 2 := by
      cases n with
      | zero => exact hax.elim
      | succ n => exact hax.1.2.1
    obtain ⟨ad, had⟩ := hV.some_ (by omega)
    rw [had] at hV
    refine ⟨hk, hl, ad, had, fun w' ho' => ?_⟩
    have := ((hV.same ho').vat ho).c1
    rw [hi] at this
    exact this
theorem known_int {w : World} {S : Nat → Prop} {n : Nat} {v : VC} (h : VAt w S n v (intT 7)) : v.i = 7 := by
  cases n with
  | zero => exact h.elim
  | succ n => exact h.1.2.1
set_option maxRecDepth 100000 in
set_option maxHeartbeats 8000000 in
theorem known_any (w : World) (h : Std w) : Calls Tryd.prog 9 #[] w fun e w' => e = .returned (.bool true) ∧ Only Nobody w w' := by
  have HS := Lib.hid h
  clear h
  go_enter Tryd.func9, Tryd.ntmps9
  go_wp2_with fail
  refine (parse_any _ (by decide) _ HS.out).mono ?_
  rw [par_ka.1, par_ka.2]
  rintro e w1 ⟨vo, rfl, hown, ho1⟩
  obtain ⟨A1, c1, rfl⟩ := own_form hown
  have HP1 : Hid (Pts w1 A1 3 ka) := Lib.hid (Pts.of_own hown)
  have HO1 := Lib.hid ho1
  clear hown ho1
  have hka : ka.length = 3 := rfl
  rw [hka]
  clear hka
  go_wp2_with fail
  refine (example_any _).mono ?_
  rintro e w2 ⟨v, rfl, hv, ho2⟩
  have HV2 := Lib.hid hv
  have HO2 := Lib.hid (HO1.out.trans ho2)
  have HP2 := Lib.hid (HP1.out.same ho2)
  clear hv ho2
  go_wp2_with fail
  refine (get_any v exT _ 4 A1 3 c1 ka _ ex_fit HV2.out HP2.out (by omega) (HS.out.same HO2.out).tab).mono ?_
  rintro e w3 ⟨v3, rfl, hv3, ho3⟩
  rw [get_ka.1]
  rw [get_ka.2] at hv3
  obtain ⟨hk3, hl3, ad3, ha3, hc3⟩ := known_list hv3
  obtain ⟨k3, i3, s3, t3, la3, ln3, lc3, fa3, fn3, fc3⟩ := v3
  dsimp only at hk3 hl3 ha3 ⊢
  subst hk3 hl3 ha3
  have HC3 := Lib.hid hc3
  have HO3 := Lib.hid (HO2.out.trans ho3)
  have HP3 := Lib.hid (HP2.out.same ho3)
  have HB3 : Hid (Blk (w3.alloc (.cells #[.int .i64 8, .int .i64 i3, .int .i64 s3, .string t3, .slice (some ad3) 2 lc3, .slice fa3 fn3 fc3] 25)) w3.heap.size 25 #[.int .i64 8, .int .i64 i3, .int .i64 s3, .string t3, .slice (some ad3) 2 lc3, .slice fa3 fn3 fc3]) := Lib.hid (Blk.new _ _ _)
  have HO3a : Hid (Only Nobody w (w3.alloc (.cells #[.int .i64 8, .int .i64 i3, .int .i64 s3, .string t3, .slice (some ad3) 2 lc3, .slice fa3 fn3 fc3] 25))) := Lib.hid (HO3.out.alloc _)
  clear hv3 ho3 hc3
  go_wp2_with fail
  refine (parse_any _ (by decide) _ (HS.out.same HO3a.out)).mono ?_
  rw [par_kc.1, par_kc.2]
  rintro e w4 ⟨vo, rfl, hown, ho4⟩
  obtain ⟨A4, c4, rfl⟩ := own_form hown
  have HP4 : Hid (Pts w4 A4 2 kc) := Lib.hid (Pts.of_own hown)
  have HQ4 : Hid (Only Nobody w3 w4) := Lib.hid (((Only.refl _ _).alloc _).trans ho4)
  have HO4 := Lib.hid (HO3a.out.trans ho4)
  have HB4 := Lib.hid (ho4.blk HB3.out (fun x => x))
  clear hown ho4
  have hkc : kc.length = 2 := rfl
  rw [hkc]
  clear hkc
  go_wp2_with fail
  refine (example_any _).mono ?_
  rintro e w5 ⟨v5, rfl, hv, ho5⟩
  have HV5 := Lib.hid hv
  have HO5 := Lib.hid (HO4.out.trans ho5)
  have HQ5 := Lib.hid (HQ4.out.trans ho5)
  have HP5 := Lib.hid (HP4.out.same ho5)
  have HB5 := Lib.hid (ho5.blk HB4.out (fun x => x))
  clear hv ho5
  go_wp2_with fail
  refine (get_any v5 exT _ 4 A4 2 c4 kc _ ex_fit2 HV5.out HP5.out (by omega) (HS.out.same HO5.out).tab).mono ?_
  rintro e w6 ⟨v6, rfl, hv6, ho6⟩
  rw [get_kc.1]
  rw [get_kc.2] at hv6
  have hi6 := known_int hv6
  obtain ⟨k6, i6, s6, t6, la6, ln6, lc6, fa6, fn6, fc6⟩ := v6
  dsimp only at hi6 ⊢
  subst hi6
  have HO6 := Lib.hid (HO5.out.trans ho6)
  have HQ6 := Lib.hid (HQ5.out.trans ho6)
  have HB6 := Lib.hid (ho6.blk HB5.out (fun x => x))
  obtain ⟨pad, rfl⟩ := HP3.out.some_ (by omega)
  have HQA : Hid (Only Nobody w3 (w6.alloc (.cells #[.int .i64 k6, .int .i64 7, .int .i64 s6, .string t6, .slice la6 ln6 lc6, .slice fa6 fn6 fc6] 25))) := Lib.hid (HQ6.out.alloc _)
  have HBA := Lib.hid (HB6.out.alloc (.cells #[.int .i64 k6, .int .i64 7, .int .i64 s6, .string t6, .slice la6 ln6 lc6, .slice fa6 fn6 fc6] 25))
  obtain ⟨p0, p1, p2⟩ := (HP3.out.same HQA.out).at_ (i := 1) (o := ⟨3, 0, ⟨#[]⟩⟩) rfl
  dsimp only at p0 p1 p2
  rw [Nat.one_mul] at p0 p1 p2
  have q0 : (w6.alloc (.cells #[.int .i64 k6, .int .i64 7, .int .i64 s6, .string t6, .slice la6 ln6 lc6, .slice fa6 fn6 fc6] 25)).cell? ⟨w3.heap.size, 0, none⟩ = some (.int .i64 8) := HBA.out.cell 0
  have q4 : (w6.alloc (.cells #[.int .i64 k6, .int .i64 7, .int .i64 s6, .string t6, .slice la6 ln6 lc6, .slice fa6 fn6 fc6] 25)).cell? ⟨w3.heap.size, 4, none⟩ = some (.slice (some ad3) 2 lc3) := HBA.out.cell 4
  have c6 := HC3.out _ HQA.out
  rw [show pad.add 3 = ⟨pad.block, pad.off + 3, none⟩ from rfl] at p0 p1 p2
  rw [show ad3.add 6 = ⟨ad3.block, ad3.off + 6, none⟩ from rfl] at c6
  dsimp only at p1 p2 c6
  clear hv6 ho6
  go_wp2_with fail
  go_ret
  exact ⟨rfl, HO6.out.alloc _⟩
end Go.Proofs.YtdccckoelnnnoaaDoor
