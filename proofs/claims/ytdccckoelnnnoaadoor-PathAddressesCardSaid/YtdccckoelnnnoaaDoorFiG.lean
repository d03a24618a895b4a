/- Path: contract of Get. -/
import Derived.Test.YtdccckoelnnnoaaDoorFiA
namespace Go.Proofs.YtdccckoelnnnoaaDoor
open Go.RowKit
attribute [local go_sem ↓] Go.wp_at_zero Go.wp_at_succ

def getV (T : VT) (L : List Pt) : VT :=
  if findE T L = 0 then (if everyL L = true then .mk 8 0 0 ⟨#[]⟩ (findR T L) [] else (findR T L).headD .zero) else .zero
def zeroC : VC := ⟨0, 0, 0, ⟨#[]⟩, none, 0, 0, none, 0, 0⟩
theorem zero_at (w : World) (S : Nat → Prop) (n : Nat) : VAt w S (n + 1) zeroC .zero := ⟨⟨rfl, rfl, rfl, rfl, Nat.le_refl _, Nat.le_refl _⟩, ⟨[], RowA.nil_, All2.nil_⟩, ⟨[], RowA.nil_, All2.nil_⟩⟩
theorem list_at {w : World} {S : Nat → Prop} {n : Nat} {A : Option Addr} {m c : Nat} {Ts : List VT} (h : VRow w S n A m Ts) (hc : m ≤ c) : VAt w S (n + 1) ⟨8, 0, 0, ⟨#[]⟩, A, m, c, none, 0, 0⟩ (.mk 8 0 0 ⟨#[]⟩ Ts []) := by
  obtain ⟨V, h1, h2⟩ := h
  exact ⟨⟨rfl, rfl, rfl, rfl, hc, Nat.le_refl _⟩, ⟨V, h1, h2⟩, ⟨[], RowA.nil_, All2.nil_⟩⟩
theorem addr_zero (ad : Addr) : ad.add 0 = ad := by
  unfold Addr.add
  cases ad
  split <;> simp_all
def GetPost (n : Nat) (T : VT) (L : List Pt) (w : World) (e : Ending) (w' : World) : Prop :=
  ∃ v : VC, e = .returned (.tuple #[.agg #[.int .i64 v.k, .int .i64 v.i, .int .i64 v.s, .string v.t, .slice v.la v.ln v.lc, .slice v.fa v.fn v.fc], .int .i64 (findE T L)]) ∧ VAt w' (fun b => w.heap.size ≤ b) (n + 1) v (getV T L) ∧ Only Nobody w w'
set_option maxRecDepth 100000 in
set_option maxHeartbeats 8000000 in
theorem get_any (v : VC) (T : VT) (S : Nat → Prop) (n : Nat) (A : Option Addr) (m c : Nat) (L : List Pt) (w : World) (hsz : Fit T L) (h : VAt w S n v T) (ha : Pts w A m L) (hm : m ≤ 1000) (ht : CalTab w) : Calls Tryd.prog 13 #[.agg #[.int .i64 v.k, .int .i64 v.i, .int .i64 v.s, .string v.t, .slice v.la v.ln v.lc, .slice v.fa v.fn v.fc], .slice A m c] w (GetPost n T L w) := by
  have HV := Lib.hid h
  have HP := Lib.hid ha
  have HT := Lib.hid ht
  have HOA : Hid (Only Nobody w ((w.alloc (.cells #[.int .i64 v.k, .int .i64 v.i, .int .i64 v.s, .string v.t, .slice v.la v.ln v.lc, .slice v.fa v.fn v.fc] 25)).alloc (.cells #[.int .i64 0, .int .i64 0, .int .i64 0, .string ⟨#[]⟩, .slice none 0 0, .slice none 0 0] 25))) := Lib.hid (((Only.refl _ _).alloc _).alloc _)
  have HFI := Lib.hid (find_any v T S n A m c L _ hsz (h.same HOA.out) (ha.same HOA.out) hm (ht.same HOA.out))
  have HEV : Hid (∀ w', Only Nobody w w' → Calls Tryd.prog 29 #[.slice A m c] w' fun e w'' => e = .returned (.bool (everyL L)) ∧ Only Nobody w' w'') := Lib.hid fun w' ho => every_any A m c L hm w' (ha.same ho)
  clear h ha ht hsz
  go_enter Tryd.func13, Tryd.ntmps13
  go_wp2_with fail
  refine HFI.out.mono ?_
  obtain ⟨er, HER⟩ : ∃ er, Hid (findE T L = er) := ⟨_, Lib.hid rfl⟩
  obtain ⟨R, HR⟩ : ∃ R, Hid (findR T L = R) := ⟨_, Lib.hid rfl⟩
  rintro e w1 ⟨A1, c1, rfl, hrow, hcp, ho⟩
  rw [HER.out, HR.out]
  rw [HR.out] at hrow hcp
  have HROW : Hid (VRow w1 (fun b => w.heap.size + 2 ≤ b) n A1 R.length R) := Lib.hid (by
    obtain ⟨V0, h1, h2⟩ := hrow
    have hz : ((w.alloc (.cells #[.int .i64 v.k, .int .i64 v.i, .int .i64 v.s, .string v.t, .slice v.la v.ln v.lc, .slice v.fa v.fn v.fc] 25)).alloc (.cells #[.int .i64 0, .int .i64 0, .int .i64 0, .string ⟨#[]⟩, .slice none 0 0, .slice none 0 0] 25)).heap.size = w.heap.size + 2 := by simp
    rw [hz] at h1 h2
    exact ⟨V0, h1, h2⟩)
  have HCP := Lib.hid hcp
  have HO1 := Lib.hid (HOA.out.trans ho)
  have HR1 : Hid (Blk w1 (w.heap.size + 1) 25 #[.int .i64 0, .int .i64 0, .int .i64 0, .string ⟨#[]⟩, .slice none 0 0, .slice none 0 0]) := Lib.hid (ho.blk (by
    have := Blk.new (w.alloc (.cells #[.int .i64 v.k, .int .i64 v.i, .int .i64 v.s, .string v.t, .slice v.la v.ln v.lc, .slice v.fa v.fn v.fc] 25)) 25 #[.int .i64 0, .int .i64 0, .int .i64 0, .string ⟨#[]⟩, .slice none 0 0, .slice none 0 0]
    simpa using this) (fun x => x))
  clear hrow hcp ho
  have r0 : w1.cell? ⟨w.heap.size + 1, 0, none⟩ = some (.int .i64 0) := HR1.out.cell 0
  have f0 : w1.frozen? ⟨w.heap.size + 1, 0, none⟩ = false := HR1.out.frozen 0
  have r1 : w1.cell? ⟨w.heap.size + 1, 1, none⟩ = some (.int .i64 0) := HR1.out.cell 1
  have f1 : w1.frozen? ⟨w.heap.size + 1, 1, none⟩ = false := HR1.out.frozen 1
  have r2 : w1.cell? ⟨w.heap.size + 1, 2, none⟩ = some (.int .i64 0) := HR1.out.cell 2
  have f2 : w1.frozen? ⟨w.heap.size + 1, 2, none⟩ = false := HR1.out.frozen 2
  have r3 : w1.cell? ⟨w.heap.size + 1, 3, none⟩ = some (.string ⟨#[]⟩) := HR1.out.cell 3
  have f3 : w1.frozen? ⟨w.heap.size + 1, 3, none⟩ = false := HR1.out.frozen 3
  have r4 : w1.cell? ⟨w.heap.size + 1, 4, none⟩ = some (.slice none 0 0) := HR1.out.cell 4
  have f4 : w1.frozen? ⟨w.heap.size + 1, 4, none⟩ = false := HR1.out.frozen 4
  have r5 : w1.cell? ⟨w.heap.size + 1, 5, none⟩ = some (.slice none 0 0) := HR1.out.cell 5
  have f5 : w1.frozen? ⟨w.heap.size + 1, 5, none⟩ = false := HR1.out.frozen 5
  by_cases her : er = 0
  case neg =>
    have hne : (er != 0) = true := by simpa using her
    have hnf : (er == 0) = false := by simpa using her
    have HPOST : Hid (∀ wE, Only (fun b => b = w.heap.size + 1) w1 wE → GetPost n T L w (.returned (.tuple #[.agg #[.int .i64 0, .int .i64 0, .int .i64 0, .string ⟨#[]⟩, .slice none 0 0, .slice none 0 0], .int .i64 er])) wE) := Lib.hid fun wE hE =>
      ⟨zeroC, by rw [HER.out]; rfl, by unfold getV; rw [HER.out, if_neg her]; exact zero_at _ _ _, HO1.out.trans_more (hE.mono (fun b e => .inr (by omega)))⟩
    clear her
    go_wp2_with fail
    exact bodyPost_ret (v := .tuple #[.agg #[.int .i64 0, .int .i64 0, .int .i64 0, .string ⟨#[]⟩, .slice none 0 0, .slice none 0 0], .int .i64 er]) (by simp [results, Tryd.results13, go_sem, r0, r1, r2, r3, r4, r5]) rfl (HPOST.out _ (((((((Only.refl (fun b => b = w.heap.size + 1) w1).setCell (p := ⟨w.heap.size + 1, 0, none⟩) (.inl rfl) _).setCell (p := ⟨w.heap.size + 1, 1, none⟩) (.inl rfl) _).setCell (p := ⟨w.heap.size + 1, 2, none⟩) (.inl rfl) _).setCell (p := ⟨w.heap.size + 1, 3, none⟩) (.inl rfl) _).setCell (p := ⟨w.heap.size + 1, 4, none⟩) (.inl rfl) _).setCell (p := ⟨w.heap.size + 1, 5, none⟩) (.inl rfl) _))
  subst her
  cases hev : everyL L with
  | true =>
    have HPOST : Hid (∀ w2, Only Nobody w1 w2 → ∀ wE, Only (fun b => b = w.heap.size + 1) w2 wE → GetPost n T L w (.returned (.tuple #[.agg #[.int .i64 8, .int .i64 0, .int .i64 0, .string ⟨#[]⟩, .slice A1 R.length c1, .slice none 0 0], .int .i64 0])) wE) := Lib.hid fun w2 h2 wE hE => by
      refine ⟨⟨8, 0, 0, ⟨#[]⟩, A1, R.length, c1, none, 0, 0⟩, by rw [HER.out], ?_, (HO1.out.trans h2).trans_more (hE.mono (fun b e => .inr (by omega)))⟩
      unfold getV
      rw [HER.out, if_pos rfl, if_pos hev, HR.out]
      have h3 := list_at ((HROW.out.same h2).keep hE (fun b hb e => by omega)) HCP.out
      exact h3.mono fun b _ x => by omega
    have HEVL := Lib.hid hev
    clear hev
    go_wp2_with fail
    refine (HEV.out _ HO1.out).mono ?_
    rw [HEVL.out]
    rintro e w2 ⟨rfl, ho⟩
    have HR2 := Lib.hid (ho.blk HR1.out (fun x => x))
    have HPOST := Lib.hid (HPOST.out w2 ho)
    clear ho r0 r1 r2 r3 r4 r5 f0 f1 f2 f3 f4 f5
    have r0 : w2.cell? ⟨w.heap.size + 1, 0, none⟩ = some (.int .i64 0) := HR2.out.cell 0
    have f0 : w2.frozen? ⟨w.heap.size + 1, 0, none⟩ = false := HR2.out.frozen 0
    have r1 : w2.cell? ⟨w.heap.size + 1, 1, none⟩ = some (.int .i64 0) := HR2.out.cell 1
    have f1 : w2.frozen? ⟨w.heap.size + 1, 1, none⟩ = false := HR2.out.frozen 1
    have r2 : w2.cell? ⟨w.heap.size + 1, 2, none⟩ = some (.int .i64 0) := HR2.out.cell 2
    have f2 : w2.frozen? ⟨w.heap.size + 1, 2, none⟩ = false := HR2.out.frozen 2
    have r3 : w2.cell? ⟨w.heap.size + 1, 3, none⟩ = some (.string ⟨#[]⟩) := HR2.out.cell 3
    have f3 : w2.frozen? ⟨w.heap.size + 1, 3, none⟩ = false := HR2.out.frozen 3
    have r4 : w2.cell? ⟨w.heap.size + 1, 4, none⟩ = some (.slice none 0 0) := HR2.out.cell 4
    have f4 : w2.frozen? ⟨w.heap.size + 1, 4, none⟩ = false := HR2.out.frozen 4
    have r5 : w2.cell? ⟨w.heap.size + 1, 5, none⟩ = some (.slice none 0 0) := HR2.out.cell 5
    have f5 : w2.frozen? ⟨w.heap.size + 1, 5, none⟩ = false := HR2.out.frozen 5
    go_wp2_with fail
    exact bodyPost_ret (v := .tuple #[.agg #[.int .i64 8, .int .i64 0, .int .i64 0, .string ⟨#[]⟩, .slice A1 R.length c1, .slice none 0 0], .int .i64 0]) (by simp [results, Tryd.results13, go_sem, r0, r1, r2, r3, r4, r5]) rfl (HPOST.out _ (((((((Only.refl (fun b => b = w.heap.size + 1) w2).setCell (p := ⟨w.heap.size + 1, 0, none⟩) (.inl rfl) _).setCell (p := ⟨w.heap.size + 1, 1, none⟩) (.inl rfl) _).setCell (p := ⟨w.heap.size + 1, 2, none⟩) (.inl rfl) _).setCell (p := ⟨w.heap.size + 1, 3, none⟩) (.inl rfl) _).setCell (p := ⟨w.heap.size + 1, 4, none⟩) (.inl rfl) _).setCell (p := ⟨w.heap.size + 1, 5, none⟩) (.inl rfl) _))
  | false =>
    have HNE : Hid (0 < R.length) := Lib.hid (by
      have he := HER.out
      have hr := HR.out
      unfold findE at he
      unfold findR at hr
      by_cases hc : chkE L = 0
      · rw [if_pos hc] at he hr
        cases hf : findT [T] L with
        | none => rw [hf] at he; simp at he
        | some Ts =>
          rw [hf] at he hr
          simp only [] at he hr
          subst hr
          cases Ts with
          | nil => rw [if_pos ⟨rfl, hev⟩] at he; simp at he
          | cons a l => simp
      · rw [if_neg hc] at he; exact absurd he hc)
    obtain ⟨V, hV, hA⟩ := HROW.out
    have hn0 : (0 : Int) < (R.length : Int) := by have := HNE.out; omega
    obtain ⟨ad, rfl⟩ := hV.some_ HNE.out
    obtain ⟨o, ho⟩ := hV.get HNE.out
    obtain ⟨x, hx, hax⟩ := hA.get ho
    have HVC : Hid (∀ w2, Only Nobody w1 w2 → VCell w2 ad 0 o) := Lib.hid fun w2 h2 => (hV.same h2).vat ho
    have HPOST : Hid (∀ w2, Only Nobody w1 w2 → ∀ wE, Only (fun b => b = w.heap.size + 1) w2 wE → GetPost n T L w (.returned (.tuple #[.agg #[.int .i64 o.k, .int .i64 o.i, .int .i64 o.s, .string o.t, .slice o.la o.ln o.lc, .slice o.fa o.fn o.fc], .int .i64 0])) wE) := Lib.hid fun w2 h2 wE hE => by
      refine ⟨o, by rw [HER.out], ?_, (HO1.out.trans h2).trans_more (hE.mono (fun b e => .inr (by omega)))⟩
      unfold getV
      rw [HER.out, if_pos rfl, if_neg (by rw [hev]; decide), HR.out]
      have hd : R.headD .zero = x := by
        cases R with
        | nil => simp at hx
        | cons a l => simp at hx; rw [hx]; rfl
      rw [hd]
      exact (((hax.same h2).keep hE (fun b hb e => by omega)).mono fun b _ x => by omega).up
    have HEVL := Lib.hid hev
    clear hev hV hA ho hx hax
    go_wp2_with fail
    refine (HEV.out _ HO1.out).mono ?_
    rw [HEVL.out]
    rintro e w2 ⟨rfl, ho⟩
    have HR2 := Lib.hid (ho.blk HR1.out (fun x => x))
    have HPOST := Lib.hid (HPOST.out w2 ho)
    obtain ⟨a0, a1, a2, a3, a4, a5⟩ := HVC.out w2 ho
    rw [Nat.zero_mul, addr_zero] at a0 a1 a2 a3 a4 a5
    clear ho r0 r1 r2 r3 r4 r5 f0 f1 f2 f3 f4 f5
    have r0 : w2.cell? ⟨w.heap.size + 1, 0, none⟩ = some (.int .i64 0) := HR2.out.cell 0
    have f0 : w2.frozen? ⟨w.heap.size + 1, 0, none⟩ = false := HR2.out.frozen 0
    have r1 : w2.cell? ⟨w.heap.size + 1, 1, none⟩ = some (.int .i64 0) := HR2.out.cell 1
    have f1 : w2.frozen? ⟨w.heap.size + 1, 1, none⟩ = false := HR2.out.frozen 1
    have r2 : w2.cell? ⟨w.heap.size + 1, 2, none⟩ = some (.int .i64 0) := HR2.out.cell 2
    have f2 : w2.frozen? ⟨w.heap.size + 1, 2, none⟩ = false := HR2.out.frozen 2
    have r3 : w2.cell? ⟨w.heap.size + 1, 3, none⟩ = some (.string ⟨#[]⟩) := HR2.out.cell 3
    have f3 : w2.frozen? ⟨w.heap.size + 1, 3, none⟩ = false := HR2.out.frozen 3
    have r4 : w2.cell? ⟨w.heap.size + 1, 4, none⟩ = some (.slice none 0 0) := HR2.out.cell 4
    have f4 : w2.frozen? ⟨w.heap.size + 1, 4, none⟩ = false := HR2.out.frozen 4
    have r5 : w2.cell? ⟨w.heap.size + 1, 5, none⟩ = some (.slice none 0 0) := HR2.out.cell 5
    have f5 : w2.frozen? ⟨w.heap.size + 1, 5, none⟩ = false := HR2.out.frozen 5
    go_wp2_with fail
    exact bodyPost_ret (v := .tuple #[.agg #[.int .i64 o.k, .int .i64 o.i, .int .i64 o.s, .string o.t, .slice o.la o.ln o.lc, .slice o.fa o.fn o.fc], .int .i64 0]) (by simp [results, Tryd.results13, go_sem, r0, r1, r2, r3, r4, r5]) rfl (HPOST.out _ (((((((Only.refl (fun b => b = w.heap.size + 1) w2).setCell (p := ⟨w.heap.size + 1, 0, none⟩) (.inl rfl) _).setCell (p := ⟨w.heap.size + 1, 1, none⟩) (.inl rfl) _).setCell (p := ⟨w.heap.size + 1, 2, none⟩) (.inl rfl) _).setCell (p := ⟨w.heap.size + 1, 3, none⟩) (.inl rfl) _).setCell (p := ⟨w.heap.size + 1, 4, none⟩) (.inl rfl) _).setCell (p := ⟨w.heap.size + 1, 5, none⟩) (.inl rfl) _))
end Go.Proofs.YtdccckoelnnnoaaDoor
